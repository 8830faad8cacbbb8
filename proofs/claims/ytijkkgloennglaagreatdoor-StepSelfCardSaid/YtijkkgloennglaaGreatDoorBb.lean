/-
  What is known at first, by the program. No condition.
-/
import Derived.Test.YtijkkgloennglaaGreatDoorBa
set_option linter.all false
set_option maxRecDepth 100000
namespace Go.Proofs.YtijkkgloennglaaGreatDoor.Ab
open Go Go.RowKit
attribute [local simp] WL_cons WL_nil guardOk callOf stepOp clsOf pureA readA loudA allocA opd opds Env.get Env.put ofConst binA intBin unA strBin partsOf fillA zeros TV.cells TyI.wrap TyI.agg bnd ofPart ptrVals

/-- a block of texts of its own -/
def OwnS (s : St) (b : Nat) (l : List (List UInt8)) : Prop := s.get b = some ⟨true, .cells (l.map .str)⟩
theorem OwnS.cells {s : St} {b : Nat} {l : List (List UInt8)} (h : OwnS s b l) : s.cells b = some (l.map .str) := by unfold St.cells; rw [h]
theorem OwnS.own {s : St} {b : Nat} {l : List (List UInt8)} (h : OwnS s b l) : s.ownCells b = some (l.map .str) := by unfold St.ownCells; rw [h]
theorem OwnS.strs {s : St} {b : Nat} {l : List (List UInt8)} {cap : Option Nat} (h : OwnS s b l) {n : Nat} (hn : n ≤ l.length) : Strs s (.sl b 0 n 1 cap) (l.take n) := by
  refine .inr ⟨b, 0, cap, l.map .str, by rw [List.length_take]; congr 1; omega, h.cells, by simp; omega, fun i z hz => ?_⟩
  rw [List.getElem?_take] at hz
  split at hz
  · rw [Nat.zero_add, List.getElem?_map, hz]; rfl
  · cases hz
theorem Strs.src {s : St} {y : AV} {q : List (List UInt8)} (h : Strs s y q) : srcA ⟨.str, 1, 16, [.str []]⟩ s (.v y) = some (q.length, q.map .str) := by
  rcases h with ⟨rfl | rfl, rfl⟩ | ⟨b, off, cap, cs, rfl, h1, h2, h3⟩
  · rfl
  · rfl
  · simp only [srcA, Nat.mul_one, if_true]
    by_cases h0 : q.length = 0
    · have : q = [] := List.length_eq_zero_iff.1 h0
      subst this; simp
    · rw [if_neg h0, h1]
      simp only [h2, if_true, Option.some.injEq, Prod.mk.injEq, true_and]
      apply List.ext_getElem?
      intro i
      rw [List.getElem?_take]
      split
      · rename_i hi
        rw [List.getElem?_drop, h3 i q[i] (by simp), List.getElem?_map, List.getElem?_eq_getElem hi]; rfl
      · rename_i hi
        rw [List.getElem?_eq_none (by simp; omega)]
theorem append_strs {s : St} (hf : Fresh s) {b : Nat} {cap : Option Nat} {y : AV} {l q : List (List UInt8)} (hb : OwnS s b l) (hc : cap = none ∨ cap = some l.length) (hy : Strs s y q) (hl : l.length + q.length ≤ 100000) :
    ∃ b' cap' s', appendA tys 22 (.v (.sl b 0 l.length 1 cap)) (.v y) s = some (.v (.sl b' 0 (l ++ q).length 1 cap'), s') ∧ OwnS s' b' (l ++ q) ∧ (cap' = none ∨ cap' = some (l ++ q).length) ∧ (∀ c, c < s.next → c ≠ b → s'.get c = s.get c) ∧ s.next ≤ s'.next ∧ s'.gl = s.gl ∧ Fresh s' ∧ (b' = b ∨ b' = s.next) ∧ (s'.next = s.next ∨ s'.next = s.next + 1) := by
  have hbn : b < s.next := by
    apply Decidable.byContradiction; intro hn
    have := hf b (by omega); unfold OwnS at hb; rw [this] at hb; cases hb
  unfold appendA
  rw [kd22]
  simp only [at9, hy.src]
  by_cases h0 : q.length = 0
  · have : q = [] := List.length_eq_zero_iff.1 h0
    subst this
    refine ⟨b, cap, s, by simp, by simpa using hb, by simpa using hc, fun _ _ _ => rfl, Nat.le_refl _, rfl, hf, .inl rfl, .inl rfl⟩
  · rw [if_neg h0, if_neg (by omega)]
    have hold : oldA s b 0 l.length 1 = some (l.map .str) := by
      unfold oldA
      split
      · rename_i h; have : l = [] := List.length_eq_zero_iff.1 h; subst this; rfl
      · rw [hb.cells]; simp [List.take_of_length_le]
    simp only [moreA, hold]
    rw [if_neg (by omega)]
    rcases hc with rfl | rfl
    · simp only [hb.own]
      refine ⟨s.next, none, (s.del b).new ⟨true, .cells (l.map .str ++ q.map .str)⟩, by simp, ?_, .inl rfl, fun c h1 h2 => ?_, by simp, rfl, fun c h => ?_, .inr rfl, .inr (by simp)⟩
      · unfold OwnS; rw [St.get_delnew, if_pos rfl]; simp
      · rw [St.get_delnew, if_neg (by omega), if_neg h2]
      · simp at h; rw [St.get_delnew, if_neg (by omega)]; split; rfl; exact hf c (by omega)
    · simp only
      rw [if_neg (by omega)]
      refine ⟨s.next, none, s.new ⟨true, .cells (l.map .str ++ q.map .str)⟩, by simp, ?_, .inl rfl, fun c h1 h2 => ?_, by simp, rfl, hf.new _, .inr rfl, .inr (by simp)⟩
      · unfold OwnS; rw [St.get_new, if_pos rfl]; simp
      · rw [St.get_new, if_neg (by omega)]

/-- what is known at first: locals -/
def beginL (cl : List UInt8) (ps : List (List UInt8)) (L : Int) : List (List UInt8) := (cl :: ps ++ List.replicate 1000 []).take L.toNat
theorem at39 : tys.at 39 = some ⟨.struct [(0, 9), (1, 22), (2, 9), (3, 4), (4, 3), (5, 36), (6, 37)], 7, 120, [.str [], .nils, .str [], .bool false, .int .i64 0, .nils, .nils]⟩ := rfl
theorem kd39 : tys.kd 39 = some (.struct [(0, 9), (1, 22), (2, 9), (3, 4), (4, 3), (5, 36), (6, 37)]) := rfl

/-- the memory behind a method that was put by, and the answer's place -/
structure Bg (s : St) (mc : List AV) (zc : List AV) (t : St) : Prop where
  k : Keeps s t
  f : Fresh t
  n : s.next + 2 ≤ t.next
  m : t.get s.next = some ⟨true, .cells mc⟩
  z : t.get (s.next + 1) = some ⟨true, .cells zc⟩
theorem Bg.start {s : St} (hf : Fresh s) (mc zc : List AV) : Bg s mc zc ((s.new ⟨true, .cells mc⟩).new ⟨true, .cells zc⟩) :=
  ⟨(Keeps.new _ _).trans (Keeps.new _ _), (hf.new _).new _, by simp, by simp, by simp⟩
theorem Bg.mc {s t : St} {mc zc : List AV} (h : Bg s mc zc t) : t.cells s.next = some mc := by unfold St.cells; rw [h.m]
theorem Bg.zc {s t : St} {mc zc : List AV} (h : Bg s mc zc t) : t.cells (s.next + 1) = some zc := by unfold St.cells; rw [h.z]
theorem Bg.zo {s t : St} {mc zc : List AV} (h : Bg s mc zc t) : t.ownCells (s.next + 1) = some zc := by unfold St.ownCells; rw [h.z]
theorem Bg.step {s t t' : St} {mc zc : List AV} (h : Bg s mc zc t) (hk : ∀ c, c < s.next + 2 → t'.get c = t.get c) (hn : t.next ≤ t'.next) (hg : t'.gl = t.gl) (hf : Fresh t') : Bg s mc zc t' :=
  ⟨⟨hg.trans h.k.gl, fun b hb => (hk b (by omega)).trans (h.k.old b hb), Nat.le_trans h.k.next hn⟩, hf, Nat.le_trans h.n hn, (hk _ (by omega)).trans h.m, (hk _ (by omega)).trans h.z⟩
theorem Bg.new {s t : St} {mc zc : List AV} (h : Bg s mc zc t) (B : Blk) : Bg s mc zc (t.new B) :=
  h.step (fun c hc => by have := h.n; rw [St.get_new, if_neg (by omega)]) (by simp) rfl (h.f.new B)
theorem begin13 {s : St} (hf : Fresh s) {cl nm rs : List UInt8} {p cd ct : AV} {ab : Bool} {L : Int} {ps : List (List UInt8)} (hp : Strs s p ps) (hps : ps.length ≤ 100) (hL : L ≤ 1000) :
    AC Tryz.prog 13 [.v (.str cl), .agg [.str nm, p, .str rs, .bool ab, .int .i64 L, cd, ct]] s (fun r s' => ∃ x, r = .agg [.bool true, .nils, x] ∧ Strs s' x (beginL cl ps L) ∧ Keeps s s') := by
  refine ac_of_wc tys_ok hm fnis13 (by simp [fr13]) ?_
  simp only [fr13, cc13]
  rw [wc_sr]; simp -implicitDefEqProofs [argEnv, at24]
  have hS := Bg.start hf [.str nm, p, .str rs, .bool ab, .int .i64 L, cd, ct] [.bool false, .nils, .nils]
  revert hS
  generalize ((s.new ⟨true, .cells [.str nm, p, .str rs, .bool ab, .int .i64 L, cd, ct]⟩).new ⟨true, .cells [.bool false, .nils, .nils]⟩) = S
  intro hS
  have hS1 := hS.new ⟨true, .cells [.str cl]⟩
  have hne : s.next ≠ S.next := by have := hS.n; omega
  obtain ⟨b1, cap1, S2, ha, ho, hcap, hk2, hn2, hg2, hf2, hb2, _⟩ := append_strs (s := S.new ⟨true, .cells [.str cl]⟩) (b := S.next) (cap := some 1) (l := [cl]) (q := ps) (y := p) hS1.f (by unfold OwnS; simp) (.inr rfl) (hp.kept hf hS1.k) (by simp; omega)
  have hB2 : Bg s [.str nm, p, .str rs, .bool ab, .int .i64 L, cd, ct] [.bool false, .nils, .nils] S2 := hS1.step (fun c hc => hk2 c (by have := hS.n; simp; omega) (by have := hS.n; omega)) hn2 hg2 hf2
  rw [wc_sr]; simp -implicitDefEqProofs [kd22, at9, kd39, at22, cells_new_eq, hne, hS.mc]
  simp at ha
  simp -implicitDefEqProofs [ha]
  rw [wc_sb]
  refine wc_loopI (fun m e t => ∃ j b cap, m = 1000 - (ps.length + 1 + j) ∧ j ≤ 1000 ∧ e = [(3, .v (.ptr s.next 0)), (4, .v (.ptr (s.next + 1) 0)), (5, .v (.sl b 0 (ps.length + 1 + j) 1 cap))] ∧ OwnS t b (cl :: ps ++ List.replicate j []) ∧ (cap = none ∨ cap = some (ps.length + 1 + j)) ∧ s.next + 2 ≤ b ∧ Bg s [.str nm, p, .str rs, .bool ab, .int .i64 L, cd, ct] [.bool false, .nils, .nils] t) (1000 - (ps.length + 1)) ⟨0, b1, cap1, by omega, by omega, by simp [Env.keep], by simpa using ho, by simpa using hcap, by have := hS.n; rcases hb2 with rfl | rfl <;> simp <;> omega, hB2⟩ ?_
  rintro m e t ⟨j, b, cap, rfl, hj, rfl, hob, hcap, hb, hB⟩
  have hll : (cl :: ps ++ List.replicate j []).length = ps.length + 1 + j := by simp; omega
  have hmin : (if (1000 : Int) < L then (1000 : Int) else L) = L := if_neg (by omega)
  have e1 := fun t => lenA_sl (T := tys) (s := t) (t := 22) (e := 9) (x := .sl b 0 (ps.length + 1 + j) 1 cap) rfl rfl
  rw [wc_assoc, wc_sr]; simp -implicitDefEqProofs [e1, kd39, at3, hB.mc, minA, hmin]
  by_cases hlt : ((ps.length : Int) + 1 + j) < L
  · rw [wc_sct (by simp; omega), wc_ss]
    have hBn := hB.new ⟨true, .cells [.str []]⟩
    have hbt : b < t.next := by
      apply Decidable.byContradiction; intro hn
      have := hB.f b (by omega); unfold OwnS at hob; rw [this] at hob; cases hob
    obtain ⟨b', cap', t', ha, ho, hcap', hk, hn, hg, hf', hb', _⟩ := append_strs (s := t.new ⟨true, .cells [.str []]⟩) (b := b) (cap := cap) (l := cl :: ps ++ List.replicate j []) (q := [[]]) (y := .sl t.next 0 1 1 (some 1)) hBn.f (by unfold OwnS; rw [St.get_new, if_neg (by omega)]; exact hob) (by rw [hll]; exact hcap) (.inr ⟨t.next, 0, some 1, [.str []], rfl, by simp [cells_new_eq], by simp, fun i z hz => match i, hz with | 0, hz => by simpa using hz | k + 1, hz => by simp at hz⟩) (by simp; omega)
    rw [hll] at ha
    have hl2 : (cl :: ps ++ List.replicate j [] ++ [[]]) = cl :: ps ++ List.replicate (j + 1) [] := by rw [List.replicate_succ', ← List.append_assoc]
    have hl3 : (cl :: ps ++ List.replicate (j + 1) ([] : List UInt8)).length = ps.length + 1 + (j + 1) := by simp; omega
    rw [hl2] at ha ho hcap'
    rw [hl3] at ha hcap'
    show WC _ _ (.block 1 _) _ _ _
    rw [WC_block, WC_reg]; simp -implicitDefEqProofs [kd22, at9, ha]
    refine ⟨1000 - (ps.length + 1 + (j + 1)), by omega, j + 1, rfl, by omega, b', cap', by simp [Env.keep], by simpa using ho, hcap', ?_, hBn.step (fun c hc => hk c (by have := hB.n; simp; omega) (by omega)) hn hg hf'⟩
    rcases hb' with h | h
    · rw [h]; exact hb
    · rw [h]; have := hB.n; simp; omega
  · rw [wc_scf (by simp; omega), wc_sexit]
    show BlkK _ _ 0 _ _ (.exit 0) _ _
    have hmin2 : (if ((ps.length : Int) + 1 + j) < L then ((ps.length : Int) + 1 + j) else L) = L := if_neg hlt
    have hpre : (cl :: ps ++ List.replicate j ([] : List UInt8)).take L.toNat = beginL cl ps L := by
      unfold beginL
      have : cl :: ps ++ List.replicate 1000 ([] : List UInt8) = (cl :: ps ++ List.replicate j []) ++ List.replicate (1000 - j) [] := by
        rw [List.append_assoc, List.replicate_append_replicate, show j + (1000 - j) = 1000 by omega]
      rw [this, List.take_append_of_le_length (l₁ := cl :: ps ++ List.replicate j []) (by rw [hll]; omega)]
    have hst := hob.strs (cap := cap) (n := L.toNat) (by rw [hll]; omega)
    rw [hpre] at hst
    have hfin : ∀ (B : Blk) (x : AV), Strs t x (beginL cl ps L) → (∀ c cs, t.get c = some ⟨true, .cells cs⟩ → True) → Keeps s (t.put (s.next + 1) B) := fun B x _ _ => ⟨hB.k.gl, fun c hc => by rw [St.get_put, if_neg (by omega)]; exact hB.k.old c hc, hB.k.next⟩
    have hst2 : ∀ (B : Blk) (cap : Option Nat), Strs (t.put (s.next + 1) B) (.sl b 0 L.toNat 1 cap) (beginL cl ps L) := fun B cap => by
      have hob2 : OwnS (t.put (s.next + 1) B) b (cl :: ps ++ List.replicate j []) := by unfold OwnS; rw [St.get_put, if_neg (by omega)]; exact hob
      have := hob2.strs (cap := cap) (n := L.toNat) (by rw [hll]; omega)
      rwa [hpre] at this
    rw [blk_exit, wc_sr]
    by_cases hL0 : L < 0
    · simp -implicitDefEqProofs [e1, kd39, at3, hB.mc, minA, hmin2, hL0, sliceA, boundA, kd22, at9, at24, kd24, fieldPlaces, at4, at22, hB.zo]
      rw [WC_ret]
      simp -implicitDefEqProofs [Ends, resA, resAll, resOne, at24, cells_put_eq]
      have h0 : L.toNat = 0 := by omega
      have := hst2 ⟨true, .cells [.bool true, .nils, .sl b 0 0 1 cap]⟩ cap
      rw [h0] at this
      exact ⟨this, hfin _ _ hst (fun _ _ _ => trivial)⟩
    · simp -implicitDefEqProofs [e1, kd39, at3, hB.mc, minA, hmin2, hL0, sliceA, boundA, kd22, at9, at24, kd24, fieldPlaces, at4, at22, hB.zo, show 0 ≤ L by omega, show L.toNat ≤ ps.length + 1 + j by omega]
      rw [WC_ret]
      simp -implicitDefEqProofs [Ends, resA, resAll, resOne, at24, cells_put_eq]
      exact ⟨hst2 _ cap, hfin _ _ hst (fun _ _ _ => trivial)⟩
end Go.Proofs.YtijkkgloennglaaGreatDoor.Ab
