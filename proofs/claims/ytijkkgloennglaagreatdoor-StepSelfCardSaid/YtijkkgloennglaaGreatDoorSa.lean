/-
  Small functions on texts. No condition.
-/
import Derived.Test.YtijkkgloennglaaGreatDoorBc
import Derived.Lib.RuneCount
set_option linter.all false
set_option maxRecDepth 100000
namespace Go.Proofs.YtijkkgloennglaaGreatDoor.Ab
open Go Go.RowKit
attribute [local simp] WL_cons WL_nil guardOk callOf stepOp clsOf pureA readA loudA allocA opd opds Env.get Env.put ofConst binA intBin unA strBin partsOf fillA zeros TV.cells TyI.wrap TyI.agg bnd ofPart ptrVals

theorem lenS (l : List UInt8) (s : St) : lenA tys 9 (.v (.str l)) s = some (.v (.int .i64 l.length)) := rfl
def sufB (l : List UInt8) : Bool := decide (2 ≤ l.length) && (l.drop (l.length - 2) == [91, 93])
theorem suf166 {s : St} {l : List UInt8} (hl : l.length ≤ 1000) : AC Tryz.prog 166 [.v (.str l), .v (.str [91, 93])] s (fun r t => r = .v (.bool (sufB l)) ∧ t = s) := by
  refine ac_of_wc tys_ok hm fnis166 (by simp [fr166]) ?_
  simp only [fr166, cc166]
  rw [wc_sr]; simp -implicitDefEqProofs [argEnv]
  rw [wc_sr]
  by_cases h : 2 ≤ l.length
  · have hw : IntKind.i64.wrap ((l.length : Int) - 2) = ((l.length - 2 : Nat) : Int) := by rw [wrap_small (by omega) (by omega)]; omega
    simp -implicitDefEqProofs [lenS, show (2 : Int) ≤ l.length by omega, hw, sliceA, boundA, kd9]
    rw [WC_ret]
    simp -implicitDefEqProofs [Ends, resA, resAll, resOne, sufB, h]
  · simp -implicitDefEqProofs [lenS, show ¬ (2 : Int) ≤ l.length by omega, sliceA, boundA, kd9]
    rw [WC_ret]
    simp -implicitDefEqProofs [Ends, resA, resAll, resOne, sufB, h]
theorem suf108 {s : St} {l : List UInt8} (hl : l.length ≤ 1000) : AC Tryz.prog 108 [.v (.str l), .v (.str [91, 93])] s (fun r t => r = .v (.bool (sufB l)) ∧ t = s) := by
  refine ac_of_wc tys_ok hm fnis108 (by simp [fr108]) ?_
  simp only [fr108, cc108]
  rw [wc_sr]; simp -implicitDefEqProofs [argEnv]
  rw [wc_sr]; simp -implicitDefEqProofs
  refine ac_det (suf166 hl) ?_
  try simp -implicitDefEqProofs
  rw [WC_ret]
  simp -implicitDefEqProofs [Ends, resA, resAll, resOne]
def cutB (l : List UInt8) : List UInt8 := if sufB l then l.take (l.length - 2) else l
theorem cut167 {s : St} {l : List UInt8} (hl : l.length ≤ 1000) : AC Tryz.prog 167 [.v (.str l), .v (.str [91, 93])] s (fun r t => r = .v (.str (cutB l)) ∧ t = s) := by
  refine ac_of_wc tys_ok hm fnis167 (by simp [fr167]) ?_
  simp only [fr167, cc167]
  rw [wc_sr]; simp -implicitDefEqProofs [argEnv]
  rw [wc_assoc, wc_sr]; simp -implicitDefEqProofs
  refine ac_det (suf166 hl) ?_
  try simp -implicitDefEqProofs
  cases h : sufB l with
  | true =>
    have h2 : 2 ≤ l.length := by unfold sufB at h; simp at h; exact h.1
    have hw : IntKind.i64.wrap ((l.length : Int) - 2) = ((l.length - 2 : Nat) : Int) := by rw [wrap_small (by omega) (by omega)]; omega
    rw [wc_sct (by simp), wc_assoc, wc_sr]; simp -implicitDefEqProofs [lenS, hw, sliceA, boundA, kd9]
    rw [wc_sret]
    simp -implicitDefEqProofs [Ends, resA, resAll, resOne, cutB, h]
  | false =>
    rw [wc_scf (by simp), wc_ss, wc_sr]; simp -implicitDefEqProofs
    rw [WC_ret]
    simp -implicitDefEqProofs [Ends, resA, resAll, resOne, cutB, h]
theorem cut109 {s : St} {l : List UInt8} (hl : l.length ≤ 1000) : AC Tryz.prog 109 [.v (.str l), .v (.str [91, 93])] s (fun r t => r = .v (.str (cutB l)) ∧ t = s) := by
  refine ac_of_wc tys_ok hm fnis109 (by simp [fr109]) ?_
  simp only [fr109, cc109]
  rw [wc_sr]; simp -implicitDefEqProofs [argEnv]
  rw [wc_sr]; simp -implicitDefEqProofs
  refine ac_det (cut167 hl) ?_
  try simp -implicitDefEqProofs
  rw [WC_ret]
  simp -implicitDefEqProofs [Ends, resA, resAll, resOne]
/-- a kind without its arrays, and how many there are -/
def baseB : Nat → List UInt8 → Nat → List UInt8 × Nat
  | 0, l, n => (l, n)
  | f + 1, l, n => if sufB l then baseB f (cutB l) (n + 1) else (l, n)
theorem cut_len {l : List UInt8} (h : sufB l = true) : (cutB l).length + 2 = l.length := by
  have h2 : 2 ≤ l.length := by unfold sufB at h; simp at h; exact h.1
  simp [cutB, h]; omega
theorem suf_short {l : List UInt8} (h : l.length = 0) : sufB l = false := by simp [sufB, h]
theorem base53 {s : St} {l : List UInt8} (hl : l.length ≤ 1000) : AC Tryz.prog 53 [.v (.str l)] s (fun r t => r = .tup [(false, [.str (baseB l.length l 0).1]), (false, [.int .i64 (baseB l.length l 0).2])] ∧ t = s) := by
  refine ac_of_wc tys_ok hm fnis53 (by simp [fr53]) ?_
  simp only [fr53, cc53]
  rw [wc_sr]; simp -implicitDefEqProofs [argEnv]
  rw [wc_sr]; simp -implicitDefEqProofs
  rw [wc_sb]
  obtain ⟨I, hI⟩ : ∃ I : Nat → Env → St → Prop, ∀ m e t, I m e t = ∃ (q : List UInt8) (n f : Nat), m = q.length ∧ q.length ≤ l.length ∧ q.length ≤ f ∧ n + q.length ≤ l.length ∧ e = [(0, .v (.str q)), (4, .v (.int .i64 n))] ∧ baseB f q n = baseB l.length l 0 ∧ t = s := ⟨_, fun _ _ _ => rfl⟩
  refine wc_loopI I l.length ?_ ?_
  · rw [hI]; exact ⟨l, 0, l.length, rfl, Nat.le_refl _, Nat.le_refl _, by omega, by simp [Env.keep], rfl, rfl⟩
  intro m e t hIt
  rw [hI] at hIt
  obtain ⟨q, n, f, rfl, hq, hf, hn, rfl, hb, rfl⟩ := hIt
  rw [wc_assoc, wc_sr]; simp -implicitDefEqProofs
  refine ac_det (suf108 (by omega)) ?_
  try simp -implicitDefEqProofs
  cases h : sufB q with
  | true =>
    have hc := cut_len h
    rw [wc_sct (by simp), wc_ss]
    show WC _ _ (.block 1 _) _ _ _
    rw [WC_block, WC_reg]; simp -implicitDefEqProofs
    refine ac_det (cut109 (by omega)) ?_
    try simp -implicitDefEqProofs
    refine ⟨(cutB q).length, by omega, ?_⟩
    rw [hI]
    refine ⟨cutB q, n + 1, f - 1, rfl, by omega, by omega, by omega, by rw [wrap_small (by omega) (by omega)]; simp [Env.keep], ?_, rfl⟩
    obtain ⟨g, rfl⟩ : ∃ g, f = g + 1 := ⟨f - 1, by omega⟩
    rw [← hb]
    simp [baseB, h]
  | false =>
    rw [wc_scf (by simp), wc_sexit]
    show BlkK _ _ 0 _ _ (.exit 0) _ _
    rw [blk_exit, wc_sr]; simp -implicitDefEqProofs
    rw [WC_ret]
    have : baseB f q n = (q, n) := by cases f <;> simp [baseB, h]
    rw [this] at hb
    simp -implicitDefEqProofs [Ends, resA, resAll, resOne, partAll, TV.part, ← hb]
end Go.Proofs.YtijkkgloennglaaGreatDoor.Ab
