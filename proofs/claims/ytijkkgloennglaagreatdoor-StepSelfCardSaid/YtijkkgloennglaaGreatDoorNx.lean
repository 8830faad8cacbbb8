/-
  What may come behind an instruction: by the program, and by the document. No condition.
-/
import Derived.Test.YtijkkgloennglaaGreatDoorTab
import Derived.Test.YtijkkgloennglaaGreatDoorFw19
import Derived.KernelRfl
set_option linter.all false
set_option maxRecDepth 100000
namespace Go.Proofs.YtijkkgloennglaaGreatDoor.Ab
open Go Go.RowKit
theorem hm : Tryz.prog.follows .mixedOrders = true := by kernel_rfl
theorem at36 : tys.at 36 = some ⟨.slice 53, 1, 24, [.nils]⟩ := by rfl
theorem at3 : tys.at 3 = some ⟨.int .i64, 1, 8, [.int .i64 0]⟩ := by rfl
theorem kd42 : tys.kd 42 = some (.slice 3) := rfl
theorem nx1 {s : St} {b n : Nat} {z : Int} {x : AV} (hb : s.cells b = some [x]) (hx : slen x = some n) : AC Tryz.prog 30 [.v (.int .i64 z), .v (.ptr b 0)] s (fun r s' => r = .v (.bool (decide (z ≥ n))) ∧ s' = s) := by
  refine ac_of_wc tys_ok hm fnis30 (by simp [fr30]) ?_
  simp [fr30, cc30, WC, WL_cons, WL_nil, guardOk, callOf, stepOp, clsOf, pureA, readA, opd, opds, Env.get, Env.put, argEnv, Ends, resA, resAll, resOne, at36, hb, TyI.wrap, TyI.agg, lenA_sl (T := tys) (t := 36) (e := 53) rfl hx, binA, intBin, ofConst]

/-- a slice's whole numbers -/
def Ints (s : St) (x : AV) (l : List Int) : Prop :=
  (slen x = some 0 ∧ l = []) ∨ ∃ b off cap cs, x = .sl b off l.length 1 cap ∧ s.cells b = some cs ∧ off + l.length ≤ cs.length ∧ ∀ (i : Nat) (z : Int), l[i]? = some z → cs[off + i]? = some (.int .i64 z)
theorem Ints.len {s : St} {x : AV} {l : List Int} (h : Ints s x l) : slen x = some l.length := by
  rcases h with ⟨h1, rfl⟩ | ⟨b, off, cap, cs, rfl, _⟩
  · exact h1
  · rfl
/-- the place of an element -/
theorem Ints.at {s : St} {x : AV} {l : List Int} (h : Ints s x l) {i : Nat} (hi : i < l.length) : ∃ b off, pureA tys s.gl (.indexAddr 42 (.tmp 0) (.tmp 1)) [(0, .v x), (1, .v (.int .i64 i))] = some (.v (.ptr b off)) ∧ readA tys (.load 3 (.tmp 0)) [(0, .v (.ptr b off))] s = some (.v (.int .i64 l[i])) := by
  rcases h with ⟨h1, rfl⟩ | ⟨b, off, cap, cs, rfl, h1, h2, h3⟩
  · simp at hi
  · have h4 := h3 i l[i] (by simp)
    have h5 : (cs.drop (off + i)).take 1 = [.int .i64 l[i]] := by
      have hlt := (List.getElem?_eq_some_iff.1 h4).1
      rw [List.drop_eq_getElem_cons hlt]
      rw [List.getElem?_eq_getElem hlt] at h4
      simp [Option.some.inj h4]
    refine ⟨b, off + i, by simp [pureA, kd42, opd, Env.get, at3, hi], ?_⟩
    simp [readA, at3, opd, Env.get, h1, show off + i + 1 ≤ cs.length by omega, h5, TyI.wrap, TyI.agg]
theorem wrap_small {z : Int} (h0 : 0 ≤ z) (h : z < 9223372036854775808) : IntKind.i64.wrap z = z := by
  simp [IntKind.wrap, IntKind.bits, IntKind.signed]; omega
def fidx (n : Nat) (l : List Int) : Int := match l.findIdx? (fun z : Int => decide (z ≥ (n : Int))) with | some i => i | none => -1
theorem findIdx_at {p : Int → Bool} {l : List Int} {i : Nat} (hi : i < l.length) (hp : p l[i] = true) (hj : ∀ j (h : j < i), p l[j] = false) : l.findIdx? p = some i := by
  rw [List.findIdx?_eq_some_iff_getElem]
  exact ⟨hi, hp, fun j h => by rw [hj j h]; simp⟩
theorem idx57 {s : St} {sl : AV} {l : List Int} (hl : Ints s sl l) (hs : l.length ≤ 1000) {pb n : Nat} {x : AV} (hb : s.cells pb = some [x]) (hx : slen x = some n) :
    AC Tryz.prog 57 [.v sl, .v (.fn 30 [] [(pb, 0)])] s (fun r s' => r = .v (.int .i64 (fidx n l)) ∧ s' = s) := by
  refine ac_of_wc tys_ok hm fnis57 (by simp [fr57]) ?_
  simp only [fr57, cc57]
  simp [WC_skip, WC_exit, WC_ret, WC_reg, WC_seq, WC_block, WC_cond, WL_cons, WL_nil, guardOk, callOf, stepOp, clsOf, pureA, readA, opd, opds, Env.get, Env.put, argEnv, lenA_sl (T := tys) (t := 42) (e := 3) rfl hl.len, ofConst]
  refine wc_loopI (fun m e s1 => ∃ i, i ≤ l.length ∧ m = l.length - i ∧ e = [(0, .v sl), (1, .v (.fn 30 [] [(pb, 0)])), (7, .v (.int .i64 l.length)), (8, .v (.int .i64 i))] ∧ s1 = s ∧ ∀ j (h : j < i) (h' : j < l.length), ¬ l[j] ≥ n) l.length ⟨0, by omega, by omega, ?_, rfl, fun j h => by omega⟩ ?_
  · simp [Env.keep, Env.get]
  · rintro m e s1 ⟨i, hi, rfl, rfl, rfl, hj⟩
    by_cases hlt : i < l.length
    · obtain ⟨b, off, h1, h2⟩ := hl.at hlt
      simp [pureA, opd, Env.get] at h1
      simp [readA, opd, Env.get] at h2
      simp [WC_skip, WC_exit, WC_ret, WC_reg, WC_seq, WC_block, WC_cond, WL_cons, WL_nil, guardOk, callOf, stepOp, clsOf, pureA, readA, opd, opds, Env.get, Env.put, binA, intBin, hlt, h1, h2, ptrVals]
      refine ac_det (nx1 hb hx) ?_
      by_cases hp : l[i] ≥ (n : Int)
      · simp [hp, Ends, resA, resAll, resOne, Env.get]
        have := findIdx_at (p := fun z : Int => decide (z ≥ (n : Int))) hlt (by simpa using hp) (fun j h => by simpa using hj j h (by omega))
        simp [fidx, this]
      · simp [hp, WL_cons, WL_nil, guardOk, callOf, stepOp, clsOf, pureA, opd, Env.get, Env.put, binA, intBin, ofConst, Env.keep]
        refine ⟨l.length - (i + 1), by omega, i + 1, by omega, rfl, ?_, fun j h h' => ?_⟩
        · rw [wrap_small (by omega) (by omega)]; simp
        · by_cases e : j = i
          · subst e; simpa using hp
          · simpa using hj j (by omega) h'
    · have : i = l.length := by omega
      subst this
      simp [WC_skip, WC_exit, WC_ret, WC_reg, WC_seq, WC_block, WC_cond, WL_cons, WL_nil, guardOk, callOf, stepOp, clsOf, pureA, readA, opd, opds, Env.get, Env.put, binA, intBin, Ends, resA, resAll, resOne, ofConst]
      have : l.findIdx? (fun z : Int => decide (z ≥ (n : Int))) = none := by
        rw [List.findIdx?_eq_none_iff]
        intro z hz
        obtain ⟨j, hj', rfl⟩ := List.getElem_of_mem hz
        simpa using hj j hj' hj'
      simp [fidx, this]
theorem has29 {s : St} {sl : AV} {l : List Int} (hl : Ints s sl l) (hs : l.length ≤ 1000) {pb n : Nat} {x : AV} (hb : s.cells pb = some [x]) (hx : slen x = some n) :
    AC Tryz.prog 29 [.v sl, .v (.fn 30 [] [(pb, 0)])] s (fun r s' => r = .v (.bool (l.any fun z => decide (z ≥ (n : Int)))) ∧ s' = s) := by
  refine ac_of_wc tys_ok hm fnis29 (by simp [fr29]) ?_
  simp only [fr29, cc29]
  simp [WC_skip, WC_exit, WC_ret, WC_reg, WC_seq, WC_block, WC_cond, WL_cons, WL_nil, guardOk, callOf, stepOp, clsOf, pureA, readA, opd, opds, Env.get, Env.put, argEnv, ofConst, ptrVals]
  refine ac_det (idx57 hl hs hb hx) ?_
  simp [WC_skip, WC_exit, WC_ret, WC_reg, WC_seq, WC_block, WC_cond, WL_cons, WL_nil, guardOk, callOf, stepOp, clsOf, pureA, readA, opd, opds, Env.get, Env.put, binA, intBin, Ends, resA, resAll, resOne, ofConst]
  unfold fidx
  cases hf : l.findIdx? (fun z : Int => decide (z ≥ (n : Int))) with
  | none =>
    rw [List.findIdx?_eq_none_iff] at hf
    have : ∀ z : Int, z ∈ l → z < (n : Int) := fun z hz => by have := hf z hz; simp at this; omega
    simpa using this
  | some i =>
    rw [List.findIdx?_eq_some_iff_getElem] at hf
    obtain ⟨h1, h2, _⟩ := hf
    have : ∃ z, z ∈ l ∧ (n : Int) ≤ z := ⟨l[i], by simp, by simpa using h2⟩
    simp [this]
theorem at4 : tys.at 4 = some ⟨.bool, 1, 1, [.bool false]⟩ := rfl
theorem AC.fresh {P : Program} {f : FuncId} {args : List TV} {s : St} {R : TV → St → Prop} (h : AC P f args s R) : AC P f args s (fun x s' => R x s' ∧ ∀ b, s'.next ≤ b → s'.get b = none) :=
  ⟨h.1, fun base μ w vs hr hv => (h.2 base μ w vs hr hv).mono fun _ _ ⟨v, x, s', μ', e, h1, h2, h3, h4⟩ => ⟨v, x, s', μ', e, h1, ⟨h2, h3.fresh⟩, h3, h4⟩⟩
theorem at9 : tys.at 9 = some ⟨.str, 1, 16, [.str []]⟩ := rfl
end Go.Proofs.YtijkkgloennglaaGreatDoor.Ab
