/-
  Is a kind there: the program's answer, worked out. No condition.
-/
import Derived.Test.YtijkkgloennglaaGreatDoorSa
import Derived.Test.YtijkkgloennglaaGreatDoorAd
set_option linter.all false
set_option maxRecDepth 100000
namespace Go.Proofs.YtijkkgloennglaaGreatDoor.Ab
open Go Go.RowKit
attribute [local simp] WL_cons WL_nil guardOk callOf stepOp clsOf pureA readA loudA allocA opd opds Env.get Env.put ofConst binA intBin unA strBin partsOf fillA zeros TV.cells TyI.wrap TyI.agg bnd ofPart ptrVals

theorem AC.clean {P : Program} {f : FuncId} {args : List TV} {s : St} {v : TV} (h : AC P f args s (fun r t => r = v ∧ Keeps s t)) (hp : v.plain = true) : AC P f args s (fun r t => r = v ∧ t = s) :=
  h.forget (Q := fun r => r = v) fun x t ⟨h1, h2⟩ => ⟨h1, by rw [h1]; exact hp, h2.old⟩

def isBr (c : UInt8) : Bool := c == 91 || c == 93
def ascL : List AV := (List.range 256).map fun i => .bool (i == 91 || i == 93)
theorem asc_get (c : UInt8) : (ascL.drop c.toNat).take 1 = [.bool (isBr c)] := by
  have hc : c.toNat < 256 := c.toNat_lt
  have hl : ascL.length = 256 := by simp [ascL]
  rw [List.drop_eq_getElem_cons (by omega)]
  simp only [List.take_succ_cons, List.take_zero, List.cons.injEq, and_true]
  simp only [ascL, List.getElem_map, List.getElem_range, isBr]
  congr 1
  have e1 : (c.toNat == 91) = (c == 91) := by
    rw [Bool.eq_iff_iff]; simp only [beq_iff_eq]
    exact ⟨fun h => UInt8.toNat_inj.1 h, fun h => by rw [h]; rfl⟩
  have e2 : (c.toNat == 93) = (c == 93) := by
    rw [Bool.eq_iff_iff]; simp only [beq_iff_eq]
    exact ⟨fun h => UInt8.toNat_inj.1 h, fun h => by rw [h]; rfl⟩
  rw [e1, e2]
theorem kd91 : tys.kd 91 = some (.arr 256 4) := rfl
theorem has105 {s : St} {b : Nat} {c : UInt8} (hb : s.cells b = some ascL) : AC Tryz.prog 105 [.v (.ptr b 0), .v (.int .u8 c.toNat)] s (fun r t => r = .v (.bool (isBr c)) ∧ t = s) := by
  refine ac_of_wc tys_ok hm fnis105 (by simp [fr105]) ?_
  simp only [fr105, cc105]
  have hc : c.toNat < 256 := c.toNat_lt
  have hl : ascL.length = 256 := by simp [ascL]
  rw [wc_sr]; simp -implicitDefEqProofs [argEnv]
  rw [wc_sr]; simp -implicitDefEqProofs [kd91, at4, hb, hl, show (c.toNat : Int) < 256 by omega, show c.toNat + 1 ≤ 256 by omega, asc_get]
  rw [WC_ret]
  simp -implicitDefEqProofs [Ends, resA, resAll, resOne]
/-- a text without the brackets at its end -/
def trimB : Nat → List UInt8 → List UInt8
  | 0, q => q
  | f + 1, q => match q.getLast? with
    | none => q
    | some c => if isBr c then trimB f (q.take (q.length - 1)) else q
theorem trim51 {s : St} {b : Nat} {l : List UInt8} (hl : l.length ≤ 1000) (hb : s.cells b = some ascL) : AC Tryz.prog 51 [.v (.str l), .v (.ptr b 0)] s (fun r t => r = .v (.str (trimB l.length l)) ∧ t = s) := by
  refine ac_of_wc tys_ok hm fnis51 (by simp [fr51]) ?_
  simp only [fr51, cc51]
  rw [wc_sr]; simp -implicitDefEqProofs [argEnv]
  rw [wc_sb]
  obtain ⟨I, hI⟩ : ∃ I : Nat → Env → St → Prop, ∀ m e t, I m e t = ∃ (q : List UInt8), m = q.length ∧ q.length ≤ l.length ∧ e = [(0, .v (.str q)), (1, .v (.ptr b 0))] ∧ trimB q.length q = trimB l.length l ∧ t = s := ⟨_, fun _ _ _ => rfl⟩
  refine wc_loopI I l.length ?_ ?_
  · rw [hI]; exact ⟨l, rfl, Nat.le_refl _, by simp [Env.keep], rfl, rfl⟩
  intro m e t hIt
  rw [hI] at hIt
  obtain ⟨q, rfl, hq, rfl, ht, rfl⟩ := hIt
  rw [wc_assoc, wc_sr]; simp -implicitDefEqProofs [lenS]
  by_cases h0 : 0 < q.length
  · have hw : IntKind.i64.wrap ((q.length : Int) - 1) = ((q.length - 1 : Nat) : Int) := by rw [wrap_small (by omega) (by omega)]; omega
    rw [wc_sct (by simp [h0]), wc_ss]
    show WC _ _ (.block 1 _) _ _ _
    rw [WC_block, wc_assoc, wc_sr]
    have hg : q[q.length - 1]? = some (q[q.length - 1]'(by omega)) := by simp
    have hlast : q.getLast? = some (q[q.length - 1]'(by omega)) := by rw [List.getLast?_eq_getElem?, hg]
    generalize q[q.length - 1]'(by omega) = c at hg hlast
    simp -implicitDefEqProofs [lenS, hw, hg, kd9]
    refine ac_det (has105 hb) ?_
    have hun : trimB q.length q = if isBr c then trimB (q.take (q.length - 1)).length (q.take (q.length - 1)) else q := by
      obtain ⟨f, hf⟩ : ∃ f, q.length = f + 1 := ⟨q.length - 1, by omega⟩
      have : trimB q.length q = trimB (f + 1) q := by rw [hf]
      rw [this]
      simp only [trimB, hlast]
      rw [List.length_take, show min (q.length - 1) q.length = f by omega]
    cases hc : isBr c with
    | true =>
      simp -implicitDefEqProofs [hc]
      rw [wc_scf (by simp [hc]), wc_ss, WC_reg]; simp -implicitDefEqProofs [lenS, hw, sliceA, boundA, kd9]
      refine ⟨q.length - 1, by omega, ?_⟩
      rw [hI]
      refine ⟨q.take (q.length - 1), by simp, by simp; omega, by simp [Env.keep], ?_, rfl⟩
      rw [← ht, hun, hc]; rfl
    | false =>
      simp -implicitDefEqProofs [hc]
      rw [wc_sct (by simp [hc]), wc_sexit]
      show BlkK _ _ 0 _ _ (.exit 0) _ _
      rw [blk_exit, wc_sr]; simp -implicitDefEqProofs
      rw [WC_ret]
      rw [hun, hc] at ht
      simp -implicitDefEqProofs [Ends, resA, resAll, resOne]
      simpa using ht
  · rw [wc_scf (by simp [List.eq_nil_of_length_eq_zero (show q.length = 0 by omega)]), wc_sexit]
    show BlkK _ _ 0 _ _ (.exit 0) _ _
    rw [blk_exit, wc_sr]; simp -implicitDefEqProofs
    rw [WC_ret]
    have : q = [] := List.length_eq_zero_iff.1 (by omega)
    subst this
    simp -implicitDefEqProofs [Ends, resA, resAll, resOne]
    simpa [trimB] using ht
def gE : St := ⟨5, 5, .e⟩
theorem smallE : Small gE := smallAll_spec (by kernel_rfl)
theorem run50 : outOf 5 [] (runF tys fns ovNo 1000 4 50 [.v (.str [91, 93])] gE) = some (.tup [(true, ascL), (false, [.bool true])], []) := by kernel_rfl
theorem asc50 {s : St} (hgl : s.gl = 5) : AC Tryz.prog 50 [.v (.str [91, 93])] s (fun r t => r = .tup [(true, ascL), (false, [.bool true])] ∧ t = s) := by
  have h : AC Tryz.prog 50 [.v (.str [91, 93])] gE (fun r t => r = .tup [(true, ascL), (false, [.bool true])] ∧ t = gE) :=
    AC.told (fun _ _ h => runF_sound tys_ok hm fns_ok ovNo_ok 1000 4 _ _ _ _ _ h) smallE (by kernel_rfl) (by kernel_rfl) (by kernel_rfl) run50
  have hno : ∀ b B, gE.get b = some B → False := fun b B hB => by simp [gE, St.get, Tr.get] at hB
  refine AC.lift (g := gE) (Q := fun r => r = .tup [(true, ascL), (false, [.bool true])]) h rfl ?_ (by rw [hgl]; rfl) (Nat.le_refl _) (fun b B hB => (hno b B hB).elim) (fun b B hB => (hno b B hB).elim) (fun b B hB => (hno b B hB).elim)
  rintro x rfl
  decide +kernel
theorem at91 : tys.at 91 = some ⟨.arr 256 4, 256, 256, List.replicate 256 (.bool false)⟩ := by kernel_rfl
theorem trim21 {s : St} {l : List UInt8} (hgl : s.gl = 5) (hl : l.length ≤ 1000) : AC Tryz.prog 21 [.v (.str l), .v (.str [91, 93])] s (fun r t => r = .v (.str (trimB l.length l)) ∧ t = s) := by
  refine AC.clean ?_ rfl
  refine ac_of_wc tys_ok hm fnis21 (by simp [fr21]) ?_
  simp only [fr21, cc21]
  rw [wc_sr]; simp -implicitDefEqProofs [argEnv]
  by_cases h0 : l = []
  · rw [wc_assoc, wc_sr]; simp -implicitDefEqProofs [h0]
    rw [wc_sct (by simp), wc_assoc, wc_sr]; simp -implicitDefEqProofs
    rw [wc_sret]
    simp -implicitDefEqProofs [Ends, resA, resAll, resOne, trimB]
    exact .refl _
  · have h0' : (l == []) = false := by simp [h0]
    rw [wc_assoc, wc_sr]; simp -implicitDefEqProofs [h0']
    rw [wc_scf (by simp), wc_ss, wc_assoc, wc_sr]; simp -implicitDefEqProofs [lenS]
    rw [wc_scf (by simp), wc_ss, wc_assoc, wc_sr]; simp -implicitDefEqProofs
    refine ac_det (asc50 hgl) ?_
    have hal : ascL.length = 256 := by simp [ascL]
    simp -implicitDefEqProofs [at91, own_new_eq, hal]
    rw [wc_assoc, wc_sr]; simp -implicitDefEqProofs
    rw [wc_sct (by simp), wc_assoc, wc_sr]; simp -implicitDefEqProofs
    refine ac_det (trim51 hl (by simp [cells_put_eq])) ?_
    try simp -implicitDefEqProofs
    rw [wc_sret]
    simp -implicitDefEqProofs [Ends, resA, resAll, resOne]
    exact ⟨rfl, fun c hc => by rw [St.get_put, if_neg (by omega), St.get_new, if_neg (by omega)], by simp⟩

def plainB (l : List UInt8) : Bool := (l == [105, 110, 116]) || (l == [98, 111, 111, 108]) || (l == [116, 101, 120, 116])
theorem plain23 {s : St} {l : List UInt8} : AC Tryz.prog 23 [.v (.str l)] s (fun r t => r = .v (.bool (plainB l)) ∧ t = s) := by
  refine ac_of_wc tys_ok hm fnis23 (by simp [fr23]) ?_
  simp only [fr23, cc23]
  rw [wc_sr]; simp -implicitDefEqProofs [argEnv]
  rw [wc_sr]
  cases h1 : (l == [105, 110, 116]) <;> cases h2 : (l == [98, 111, 111, 108]) <;>
  · simp -implicitDefEqProofs [h1, h2]
    rw [WC_ret]
    simp -implicitDefEqProofs [Ends, resA, resAll, resOne, plainB, h1, h2]
def greatB (z : Int) : Bool := decide (z ≥ 65) && decide (z ≤ 90)
def smallLB (z : Int) : Bool := decide (z ≥ 97) && decide (z ≤ 122)
theorem great111 {s : St} {z : Int} : AC Tryz.prog 111 [.v (.int .i32 z)] s (fun r t => r = .v (.bool (greatB z)) ∧ t = s) := by
  refine ac_of_wc tys_ok hm fnis111 (by simp [fr111]) ?_
  simp only [fr111, cc111]
  rw [wc_sr]; simp -implicitDefEqProofs [argEnv]
  rw [wc_sr]
  by_cases h1 : (65 : Int) ≤ z <;>
  · simp -implicitDefEqProofs [h1]
    rw [WC_ret]
    simp -implicitDefEqProofs [Ends, resA, resAll, resOne, greatB, h1]
theorem small170 {s : St} {z : Int} : AC Tryz.prog 170 [.v (.int .i32 z)] s (fun r t => r = .v (.bool (smallLB z)) ∧ t = s) := by
  refine ac_of_wc tys_ok hm fnis170 (by simp [fr170]) ?_
  simp only [fr170, cc170]
  rw [wc_sr]; simp -implicitDefEqProofs [argEnv]
  rw [wc_sr]
  by_cases h1 : (97 : Int) ≤ z <;>
  · simp -implicitDefEqProofs [h1]
    rw [WC_ret]
    simp -implicitDefEqProofs [Ends, resA, resAll, resOne, smallLB, h1]
def letterB (z : Int) : Bool := greatB z || smallLB z || (decide (z ≥ 48) && decide (z ≤ 57))
theorem letter169 {s : St} {z : Int} : AC Tryz.prog 169 [.v (.int .i32 z)] s (fun r t => r = .v (.bool (letterB z)) ∧ t = s) := by
  refine ac_of_wc tys_ok hm fnis169 (by simp [fr169]) ?_
  simp only [fr169, cc169]
  rw [wc_sr]; simp -implicitDefEqProofs [argEnv]
  rw [wc_sr]; simp -implicitDefEqProofs
  refine ac_det great111 ?_
  cases hg : greatB z with
  | true =>
    simp -implicitDefEqProofs [hg]
    rw [WC_ret]
    simp -implicitDefEqProofs [Ends, resA, resAll, resOne, letterB, hg]
  | false =>
    simp -implicitDefEqProofs [hg]
    refine ac_det small170 ?_
    cases hs : smallLB z with
    | true =>
      simp -implicitDefEqProofs [hg, hs]
      rw [WC_ret]
      simp -implicitDefEqProofs [Ends, resA, resAll, resOne, letterB, hg, hs]
    | false =>
      by_cases h1 : (48 : Int) ≤ z <;>
      · simp -implicitDefEqProofs [hg, hs, h1]
        rw [WC_ret]
        simp -implicitDefEqProofs [Ends, resA, resAll, resOne, letterB, hg, hs, h1]
/-- are all letters as is asked? -/
def allB (l : List UInt8) : Nat → Nat → Bool
  | 0, _ => true
  | f + 1, p => if p < l.length then (if letterB (Utf8.decode ⟨l.toArray⟩ p).1 then allB l f (p + (Utf8.decode ⟨l.toArray⟩ p).2) else false) else true
theorem all168 {s : St} {l : List UInt8} : AC Tryz.prog 168 [.v (.str l), .v (.fn 169 [] [])] s (fun r t => r = .v (.bool (allB l l.length 0)) ∧ t = s) := by
  refine AC.clean ?_ rfl
  refine ac_of_wc tys_ok hm fnis168 (by simp [fr168]) ?_
  simp only [fr168, cc168]
  rw [wc_sr]; simp -implicitDefEqProofs [argEnv]
  rw [wc_assoc, wc_sr]; simp -implicitDefEqProofs [kd9]
  rw [wc_sb]
  obtain ⟨I, hI⟩ : ∃ I : Nat → Env → St → Prop, ∀ m e t, I m e t = ∃ (p f : Nat), m = l.length - p ∧ l.length - p ≤ f ∧ e = [(1, .v (.fn 169 [] [])), (8, .v (.ptr s.next 0))] ∧ allB l f p = allB l l.length 0 ∧ t.get s.next = some ⟨true, .siter l p⟩ ∧ Keeps s t := ⟨_, fun _ _ _ => rfl⟩
  refine wc_loopI I l.length ?_ ?_
  · rw [hI]; exact ⟨0, l.length, by omega, by omega, by simp [Env.keep], rfl, by simp, Keeps.new _ _⟩
  intro m e t hIt
  rw [hI] at hIt
  obtain ⟨p, f, rfl, hf, rfl, ha, hg, hk⟩ := hIt
  rw [wc_sr]
  by_cases h0 : p < l.length
  · have hwid := Lib.decode_width_pos ⟨l.toArray⟩ p (by simpa [ByteArray.size] using h0)
    obtain ⟨g, rfl⟩ : ∃ g, f = g + 1 := ⟨f - 1, by omega⟩
    simp only [allB, if_pos h0] at ha
    simp -implicitDefEqProofs [hg, h0]
    generalize Utf8.decode ⟨l.toArray⟩ p = d at ha hwid ⊢
    rw [wc_sct (by simp), wc_ss]
    show WC _ _ (.block 1 _) _ _ _
    rw [WC_block, wc_sr]; simp -implicitDefEqProofs
    rw [wc_sr]; simp -implicitDefEqProofs
    refine ac_det letter169 ?_
    cases hc : letterB d.1 with
    | true =>
      simp -implicitDefEqProofs [hc]
      rw [wc_cf (by simp [hc]), WC_skip]; simp -implicitDefEqProofs
      refine ⟨l.length - (p + d.2), by omega, ?_⟩
      rw [hI]
      rw [hc] at ha
      exact ⟨p + d.2, g, rfl, by omega, by simp [Env.keep], by simpa using ha, by simp, ⟨hk.gl, fun c hc => by rw [St.get_put, if_neg (by omega)]; exact hk.old c hc, hk.next⟩⟩
    | false =>
      simp -implicitDefEqProofs [hc]
      rw [wc_ct (by simp [hc]), wc_sr]; simp -implicitDefEqProofs
      rw [WC_ret]
      rw [hc] at ha
      simp only [Bool.false_eq_true, if_false] at ha
      simp -implicitDefEqProofs [BlkK, Ends, resA, resAll, resOne, ← ha]
      exact ⟨hk.gl, fun c hc => by rw [St.get_put, if_neg (by omega)]; exact hk.old c hc, hk.next⟩
  · simp -implicitDefEqProofs [hg, h0]
    rw [wc_scf (by simp), wc_sexit]
    show BlkK _ _ 0 _ _ (.exit 0) _ _
    rw [blk_exit, wc_sr]; simp -implicitDefEqProofs
    rw [WC_ret]
    have : allB l f p = true := by cases f <;> simp [allB, h0]
    rw [this] at ha
    simp -implicitDefEqProofs [Ends, resA, resAll, resOne, ← ha]
    exact hk
def nameB (l : List UInt8) : Bool := match l with
  | [] => false
  | c :: _ => if l.length > 32 then false else if c.toNat ≥ 48 ∧ c.toNat ≤ 57 then false else allB l l.length 0
theorem name110 {s : St} {l : List UInt8} : AC Tryz.prog 110 [.v (.str l)] s (fun r t => r = .v (.bool (nameB l)) ∧ t = s) := by
  refine ac_of_wc tys_ok hm fnis110 (by simp [fr110]) ?_
  simp only [fr110, cc110]
  rw [wc_sr]; simp -implicitDefEqProofs [argEnv]
  rw [wc_assoc, wc_sr]
  cases l with
  | nil =>
    simp -implicitDefEqProofs [lenS]
    rw [wc_sct (by simp), wc_assoc, wc_sr]; simp -implicitDefEqProofs
    rw [wc_sret]
    simp -implicitDefEqProofs [Ends, resA, resAll, resOne, nameB]
  | cons c q =>
    by_cases h1 : (32 : Int) < (c :: q).length
    · simp at h1
      simp -implicitDefEqProofs [lenS, h1]
      rw [wc_sct (by simp), wc_assoc, wc_sr]; simp -implicitDefEqProofs
      rw [wc_sret]
      have h2 : q.length + 1 > 32 := by omega
      simp -implicitDefEqProofs [Ends, resA, resAll, resOne, nameB, h2]
    · simp at h1
      have h1' : ¬ ((32 : Int) < (q.length : Int) + 1) := by omega
      have h2 : ¬ q.length + 1 > 32 := by omega
      by_cases h3 : (48 : Int) ≤ c.toNat
      · have h3' : 48 ≤ c.toNat := by omega
        by_cases h4 : (c.toNat : Int) ≤ 57
        · have h4' : c.toNat ≤ 57 := by omega
          simp -implicitDefEqProofs [lenS, h1', h3, h4, kd9]
          rw [wc_sct (by simp), wc_assoc, wc_sr]; simp -implicitDefEqProofs
          rw [wc_sret]
          simp -implicitDefEqProofs [Ends, resA, resAll, resOne, nameB, h2, h3', h4']
        · have h4' : ¬ c.toNat ≤ 57 := by omega
          simp -implicitDefEqProofs [lenS, h1', h3, h4, kd9]
          rw [wc_scf (by simp), wc_ss, wc_sr]; simp -implicitDefEqProofs
          refine ac_det all168 ?_
          try simp -implicitDefEqProofs
          rw [WC_ret]
          simp -implicitDefEqProofs [Ends, resA, resAll, resOne, nameB, h2, h3', h4']
      · have h3' : ¬ 48 ≤ c.toNat := by omega
        simp -implicitDefEqProofs [lenS, h1', h3, kd9]
        rw [wc_scf (by simp), wc_ss, wc_sr]; simp -implicitDefEqProofs
        refine ac_det all168 ?_
        try simp -implicitDefEqProofs
        rw [WC_ret]
        simp -implicitDefEqProofs [Ends, resA, resAll, resOne, nameB, h2, h3']
def classB (l : List UInt8) : Bool := match l with
  | [] => false
  | c :: _ => nameB l && greatB c.toNat
theorem class54 {s : St} {l : List UInt8} : AC Tryz.prog 54 [.v (.str l)] s (fun r t => r = .v (.bool (classB l)) ∧ t = s) := by
  refine ac_of_wc tys_ok hm fnis54 (by simp [fr54]) ?_
  simp only [fr54, cc54]
  rw [wc_sr]; simp -implicitDefEqProofs [argEnv]
  rw [wc_sr]; simp -implicitDefEqProofs
  refine ac_det name110 ?_
  cases l with
  | nil =>
    simp -implicitDefEqProofs [nameB]
    rw [WC_ret]
    simp -implicitDefEqProofs [Ends, resA, resAll, resOne, classB]
  | cons c q =>
    cases hn : nameB (c :: q) with
    | false =>
      simp -implicitDefEqProofs [hn]
      rw [WC_ret]
      simp -implicitDefEqProofs [Ends, resA, resAll, resOne, classB, hn]
    | true =>
      have hw : IntKind.i32.wrap (c.toNat : Int) = c.toNat := by
        have : c.toNat < 256 := c.toNat_lt
        simp [IntKind.wrap, IntKind.bits, IntKind.signed]; omega
      simp -implicitDefEqProofs [hn, show tys.kd 5 = some (.int .u8) from rfl, show tys.kd 21 = some (.int .i32) from rfl, hw, kd9]
      refine ac_det great111 ?_
      try simp -implicitDefEqProofs
      rw [WC_ret]
      simp -implicitDefEqProofs [Ends, resA, resAll, resOne, classB, hn]
def rightB (l : List UInt8) : Bool := decide ((baseB l.length l 0).2 ≤ 3) && (plainB (baseB l.length l 0).1 || classB (baseB l.length l 0).1)
theorem right22 {s : St} {l : List UInt8} (hl : l.length ≤ 1000) : AC Tryz.prog 22 [.v (.str l)] s (fun r t => r = .v (.bool (rightB l)) ∧ t = s) := by
  refine ac_of_wc tys_ok hm fnis22 (by simp [fr22]) ?_
  simp only [fr22, cc22]
  rw [wc_sr]; simp -implicitDefEqProofs [argEnv]
  rw [wc_sr]; simp -implicitDefEqProofs
  refine ac_det (base53 hl) ?_
  unfold rightB
  generalize baseB l.length l 0 = d
  simp -implicitDefEqProofs
  rw [wc_sr]
  by_cases h : (d.2 : Int) ≤ 3
  · have h' : d.2 ≤ 3 := by omega
    simp -implicitDefEqProofs [h]
    refine ac_det plain23 ?_
    cases hp : plainB d.1 with
    | true =>
      simp -implicitDefEqProofs [hp]
      rw [WC_ret]
      simp -implicitDefEqProofs [Ends, resA, resAll, resOne, h']
    | false =>
      simp -implicitDefEqProofs [hp]
      refine ac_det class54 ?_
      try simp -implicitDefEqProofs
      rw [WC_ret]
      simp -implicitDefEqProofs [Ends, resA, resAll, resOne, h']
  · have h' : ¬ d.2 ≤ 3 := by omega
    simp -implicitDefEqProofs [h]
    rw [WC_ret]
    simp -implicitDefEqProofs [Ends, resA, resAll, resOne, h']
/-- a table of classes: its names -/
def Tab (s : St) (tp : Nat) (ns : List (List UInt8 × Int)) : Prop := ∃ x mb o, s.cells tp = some [x, .map mb] ∧ s.get mb = some ⟨o, .map (ns.map fun p => (.str p.1, .int .i64 p.2))⟩ ∧ tp < s.next ∧ mb < s.next
theorem Tab.kept {s t : St} {tp : Nat} {ns : List (List UInt8 × Int)} (h : Tab s tp ns) (hk : Keeps s t) : Tab t tp ns := by
  obtain ⟨x, mb, o, h1, h2, h3, h4⟩ := h
  refine ⟨x, mb, o, ?_, (hk.old mb h4).trans h2, Nat.lt_of_lt_of_le h3 hk.next, Nat.lt_of_lt_of_le h4 hk.next⟩
  unfold St.cells at h1 ⊢; rw [hk.old tp h3]; exact h1
def hasB (ns : List (List UInt8 × Int)) (k : List UInt8) : Bool := match ns with
  | [] => false
  | p :: r => if k = p.1 then true else hasB r k
theorem find_str (k : List UInt8) : ∀ ns : List (List UInt8 × Int), (hasB ns k = true ∧ ∃ n, findA (.str k) (ns.map fun p => (.str p.1, .int .i64 p.2)) = some (some (.int .i64 n))) ∨ (hasB ns k = false ∧ findA (.str k) (ns.map fun p => (AV.str p.1, AV.int .i64 p.2)) = some none)
  | [] => .inr ⟨rfl, rfl⟩
  | p :: r => by
    by_cases h : k = p.1
    · exact .inl ⟨by simp [hasB, h], p.2, by simp [findA, h]⟩
    · rcases find_str k r with ⟨h1, n, h2⟩ | ⟨h1, h2⟩
      · exact .inl ⟨by simp [hasB, h, h1], n, by simp only [List.map_cons, findA, if_neg h]; exact h2⟩
      · exact .inr ⟨by simp [hasB, h, h1], by simp only [List.map_cons, findA, if_neg h]; exact h2⟩
theorem kd61 : tys.kd 61 = some (.struct [(0, 26), (1, 59)]) := rfl
theorem at59 : tys.at 59 = some ⟨.map 9 3, 1, 8, [.nilm]⟩ := rfl
theorem kd59 : tys.kd 59 = some (.map 9 3) := rfl
theorem has24 {s : St} {tp : Nat} {ns : List (List UInt8 × Int)} {k : List UInt8} (h : Tab s tp ns) : AC Tryz.prog 24 [.v (.ptr tp 0), .v (.str k)] s (fun r t => r = .v (.bool (hasB ns k)) ∧ t = s) := by
  obtain ⟨x, mb, o, h1, h2, h3, h4⟩ := h
  refine ac_of_wc tys_ok hm fnis24 (by simp [fr24]) ?_
  simp only [fr24, cc24]
  rw [wc_sr]; simp -implicitDefEqProofs [argEnv]
  rw [wc_sr]
  rcases find_str k ns with ⟨g1, n, g2⟩ | ⟨g1, g2⟩
  · simp -implicitDefEqProofs [kd61, at59, kd59, h1, lookupA, mapOf, h2, at9, at3, keyOk, g2]
    rw [wc_sr]; simp -implicitDefEqProofs
    rw [WC_ret]
    simp -implicitDefEqProofs [Ends, resA, resAll, resOne, g1]
  · simp -implicitDefEqProofs [kd61, at59, kd59, h1, lookupA, mapOf, h2, at9, at3, keyOk, g2]
    rw [wc_sr]; simp -implicitDefEqProofs
    rw [WC_ret]
    simp -implicitDefEqProofs [Ends, resA, resAll, resOne, g1]
def kindB (ns : List (List UInt8 × Int)) (k : List UInt8) : Bool := (k == [110, 117, 108, 108]) || (rightB k && (plainB (trimB k.length k) || hasB ns (trimB k.length k)))
theorem kind9 {s : St} {tp : Nat} {ns : List (List UInt8 × Int)} {k : List UInt8} (hgl : s.gl = 5) (h : Tab s tp ns) (hk : k.length ≤ 1000) : AC Tryz.prog 9 [.v (.ptr tp 0), .v (.str k)] s (fun r t => r = .v (.bool (kindB ns k)) ∧ t = s) := by
  refine ac_of_wc tys_ok hm fnis9 (by simp [fr9]) ?_
  simp only [fr9, cc9]
  rw [wc_sr]; simp -implicitDefEqProofs [argEnv]
  rw [wc_assoc, wc_sr]; simp -implicitDefEqProofs
  cases h0 : (k == [110, 117, 108, 108]) with
  | true =>
    rw [wc_sct (by simp [h0]), wc_assoc, wc_sr]; simp -implicitDefEqProofs
    rw [wc_sret]
    simp -implicitDefEqProofs [Ends, resA, resAll, resOne, kindB, h0]
  | false =>
    rw [wc_scf (by simp [h0]), wc_ss, wc_sr]; simp -implicitDefEqProofs
    refine ac_det (trim21 hgl hk) ?_
    try simp -implicitDefEqProofs
    rw [wc_sr]; simp -implicitDefEqProofs
    refine ac_det (right22 hk) ?_
    cases hr : rightB k with
    | false =>
      simp -implicitDefEqProofs [hr]
      rw [WC_ret]
      simp -implicitDefEqProofs [Ends, resA, resAll, resOne, kindB, h0, hr]
    | true =>
      simp -implicitDefEqProofs [hr]
      refine ac_det plain23 ?_
      cases hp : plainB (trimB k.length k) with
      | true =>
        simp -implicitDefEqProofs [hp]
        rw [WC_ret]
        simp -implicitDefEqProofs [Ends, resA, resAll, resOne, kindB, h0, hr, hp]
      | false =>
        simp -implicitDefEqProofs [hp]
        refine ac_det (has24 h) ?_
        try simp -implicitDefEqProofs
        rw [WC_ret]
        simp -implicitDefEqProofs [Ends, resA, resAll, resOne, kindB, h0, hr, hp]
end Go.Proofs.YtijkkgloennglaaGreatDoor.Ab
