/-
  The statement of a shape merged with itself: the row, and its card: for every input the law answers true, and all arguments read as before. No condition.
-/
import Derived.Test.YtijkkgloennglaaGreatDoorCards
import Derived.Test.YtijkkgloennglaaGreatDoorTie
import Derived.ProofKit
import Derived.OpenShut
import Derived.Lay
import Derived.LaidMore
import Derived.Deep.DeepHandedRow
import Derived.Deep.DeepWitnessRowRef
import Derived.Test.YtijkkgloennglaaGreatDoorSe
set_option linter.all false
set_option maxRecDepth 100000
namespace Go.Proofs.YtijkkgloennglaaGreatDoor.stepSelf
open Go Go.ChangeShapes Go.WideShapes Go.ChangeAt Go.RowKit Ab
theorem own : ownKnob Tryz.prog.godebug = none := by kernel_rfl
theorem contract (H : Type) (enc : TypeId × Value → H) (W : World) (base : Nat) (args : Array Value) (ds gs : List (DataW H)) (before : List MemPlace)
    (hval : ∀ (j : Nat) t v, Tryz.f3.params[j]? = some t → args[j]? = some v → Value.okWide Tryz.prog W .any base t v)
    (hW : DataW.Whole enc Tryz.prog Tryz.f3.params.toList Rows.stepSelfSpec.vars false W args.toList ds gs before) (hL : laidMetH Tryz.prog Rows.stepSelfRow.laid W) :
    Calls Tryz.prog 3 args W fun e W' => ∃ v, e = .returned v ∧ Rows.stepSelfSpec.post enc Tryz.prog Tryz.f3 false true false false W args v W' := by
  have hg : ∀ g vs, (g, vs) ∈ gl07 → g < 5 ∧ ∃ (c : Array Value) (tt : TypeId) (fr : Nat × Nat), W.heap[g]? = some (.cells c tt fr) ∧ ∀ μ, VL μ vs c.toList := by
    intro g vs hm
    simp only [gl07, List.mem_cons, Prod.mk.injEq, List.mem_nil_iff, or_false] at hm
    rcases hm with ⟨rfl, rfl⟩ | ⟨rfl, rfl⟩
    · exact ⟨by decide, laid_cells (T := tys) tys_ok hL (name := "squinch/hier.faults") (d := Rows.laid_squinch_hier_faults) (by simp [Rows.stepSelfRow]) rfl (n := 8) (t := 102) (by kernel_rfl) (by kernel_rfl) (by kernel_rfl) (by kernel_rfl)⟩
    · exact ⟨by decide, laid_cells (T := tys) tys_ok hL (name := "squinch/code.ops") (d := Rows.laid_squinch_code_ops) (by simp [Rows.stepSelfRow]) rfl (n := 8) (t := 199) (by kernel_rfl) (by kernel_rfl) (by kernel_rfl) (by kernel_rfl)⟩
  have hsz : 5 ≤ W.heap.size := by
    obtain ⟨_, c, tt, fr, h, _⟩ := hg 4 gOps (by simp [gl07])
    have := (Array.getElem?_eq_some_iff.1 h).1
    omega
  refine law_contract (T := tys) (H := H) (n := 4) (tb := 4) (gl := 5) (L := gl07) tys_ok (by kernel_rfl) rfl ?_ (by kernel_rfl) (by kernel_rfl) ?_ ?_ hval hW hsz hg
  · intro ds hl
    have hl : ds.length = 1 := hl.trans (by kernel_rfl)
    match ds, hl with
    | [_], _ => rfl
  · intro t ht
    have ht : t ∈ [24] := by
      have e : Tryz.f3.params.toList = [24] := by kernel_rfl
      rwa [e] at ht
    simp only [List.mem_cons, List.mem_nil_iff, or_false] at ht
    rcases ht with rfl
    · exact ⟨by kernel_rfl, by kernel_rfl, by decide +kernel⟩
  · intro μ h st xs hR hE hx
    have e : Tryz.f3.params.toList = [24] := by kernel_rfl
    rw [e] at hx
    have hlt : ∀ b B, g0.get b = some B → b < 5 := fun b B hB => by
      obtain ⟨vs, hm, _⟩ := startMem_get gl07 b B hB
      simp only [gl07, List.mem_cons, Prod.mk.injEq, List.mem_nil_iff, or_false] at hm
      rcases hm with ⟨rfl, _⟩ | ⟨rfl, _⟩ <;> decide
    exact law3_any hR.rel.fresh (hE.gl) hE.next (fun b B hB => (hE.keep b (hlt b B hB)).trans hB) hlt hx
noncomputable def laidWorld (os : Os) : World := World.laidAll Tryz.prog os Rows.stepSelfRow.laid
theorem laid_met (os : Os) : laidMet Tryz.prog Rows.stepSelfRow.laid ((laidWorld os).forCall (fun _ _ => 0) ⟨#[], #[.agg #[.bool false, .slice none 0 0, .slice none 0 0]], []⟩).memory :=
  laidMet_laidAll _ (by kernel_rfl) (by kernel_rfl)
theorem reads (os : Os) {H : Type} (enc : TypeId × Value → H) : ∃ places, DataW.whole enc Tryz.prog ((laidWorld os).forCall (fun _ _ => 0) ⟨#[], #[.agg #[.bool false, .slice none 0 0, .slice none 0 0]], []⟩).memory Tryz.f3.params.toList Rows.stepSelfSpec.vars false (#[.agg #[.bool false, .slice none 0 0, .slice none 0 0]] : Array Value).toList 8 = some ([.agg [.lit (.bool false), .nil, .nil]], [], places) :=
  ⟨[], by kernel_rfl⟩
theorem lifted (os : Os) (started : os.Started) (H : Type) (enc : TypeId × Value → H) (F : Stop.Interp) :
    ReturnsInHanded {} Tryz.checked os 3 .any ((OpenSpec.ofChange Rows.stepSelfSpec).preRow enc Tryz.prog Tryz.f3 Rows.stepSelfRow.domain false Rows.stepSelfRow.laid) (((OpenSpec.ofChange Rows.stepSelfSpec).at F).post enc Tryz.prog Tryz.f3 false true false false) := by
  obtain ⟨places, hx⟩ := reads os enc
  refine returnsInHanded_of_row (C := Tryz.checked) (s := OpenSpec.ofChange Rows.stepSelfSpec) own started (by kernel_rfl) Tryz.func3
    (witness_row_atRef (enc := enc) (C := Tryz.checked) false (laidWorld os) #[.agg #[.bool false, .slice none 0 0, .slice none 0 0]] (World.laidAll_os _ _ _) (by kernel_rfl) (by kernel_rfl) (by kernel_rfl)
      (OpenSpec.preRow_of_cond 8 hx (by kernel_rfl) (fun k hk => by cases hk) (by kernel_rfl) (by rw [MakeChecks.laidMetH_plain _ _ _ (by kernel_rfl)]; exact laid_met os))) ?_
  intro W base args ds gs before hval hW _ _ _ hL _ _
  exact contract H enc W base args ds gs before hval hW hL
theorem said : Rows.StepSelfSaid :=
  OpenClaim.holds_of_cond 3 Tryz.f3 rfl rfl rfl rfl rfl rfl rfl ⟨rfl, rfl, rfl, rfl, rfl⟩ rfl rfl rfl rfl rfl (by kernel_rfl) Tryz.func3 (by kernel_rfl)
    (of_decide_eq_true (by kernel_rfl)) (by unfold Func.isWrapper; first | (rw [if_pos (by decide +kernel)]; kernel_rfl) | (rw [if_neg (by decide +kernel)]; exact ⟨rfl, rfl⟩))
    (fun os started H enc _ F => by rw [OpenClaim.pre_eq_preRow]; exact lifted os started H enc F)
theorem plain (f : FuncId) (fn : Func) (hf : Tryz.pinned.checked.prog.funcNamed Rows.stepSelfRow.func = some f) (hfn : Tryz.pinned.checked.prog.funcs[f]? = some fn) :
    false = Tryz.pinned.checked.prog.looks [] ∧ ∀ (j : Nat) t, fn.params[j]? = some t → Tryz.pinned.checked.prog.wantsStandIn t = false := by
  obtain rfl : f = 3 := Option.some.inj ((show Tryz.prog.funcNamed Rows.stepSelfRow.func = some 3 by kernel_rfl).symm.trans hf) |>.symm
  obtain rfl : fn = Tryz.f3 := (Option.some.inj (Tryz.func3.symm.trans hfn)).symm
  refine ⟨by kernel_rfl, fun j t ht => ?_⟩
  have ht := Array.mem_of_getElem? ht
  rw [← Array.mem_toList_iff, show Tryz.f3.params.toList = [24] by kernel_rfl] at ht
  simp only [List.mem_cons, List.mem_nil_iff, or_false] at ht
  rcases ht with rfl
  · exact (show Tryz.prog.wantsStandIn 24 = false by kernel_rfl)
theorem card : Rows.StepSelfCardSaid :=
  Claim7.holds_tied_plain_at .later [] _ _ _ _ said (fun _ h => by cases h) (by kernel_rfl) (fun _ h => by cases h) stepSelf_row_tie rfl ⟨rfl, rfl⟩ (by kernel_rfl) rfl plain (by kernel_rfl)
end Go.Proofs.YtijkkgloennglaaGreatDoor.stepSelf
