/-
  Which of the anchor's classes is below which, by the document: the run whole. No condition.
-/
import Derived.Test.YtijkkgloennglaaGreatDoorAb
set_option linter.all false
set_option maxRecDepth 100000
namespace Go.Proofs.YtijkkgloennglaaGreatDoor.Ab
open Go Go.RowKit
theorem run43_12 : iter (runC tys cal43 1000 q43) [0, 3, 9] 100 e43_8 s43_8 = some (.exit 4, e43_12, s43_12) := by kernel_rfl
def outBelow : List Blk := [⟨true, .cells [.sl 12 0 12 1 (some 12), .sl 13 0 12 1 (some 12), .sl 14 0 12 1 (some 12), .sl 15 0 12 1 (some 12), .sl 16 0 12 1 (some 12), .sl 17 0 12 1 (some 12), .sl 18 0 12 1 (some 12), .sl 19 0 12 1 (some 12), .sl 20 0 12 1 (some 12), .sl 21 0 12 1 (some 12), .sl 22 0 12 1 (some 12), .sl 23 0 12 1 (some 12)]⟩, ⟨true, .cells [.bool false, .bool false, .bool false, .bool false, .bool false, .bool false, .bool false, .bool false, .bool false, .bool false, .bool false, .bool false]⟩, ⟨true, .cells [.bool true, .bool false, .bool false, .bool false, .bool false, .bool false, .bool false, .bool false, .bool false, .bool false, .bool false, .bool false]⟩, ⟨true, .cells [.bool true, .bool true, .bool false, .bool false, .bool false, .bool false, .bool false, .bool false, .bool false, .bool false, .bool false, .bool false]⟩, ⟨true, .cells [.bool true, .bool true, .bool false, .bool false, .bool false, .bool false, .bool false, .bool false, .bool false, .bool false, .bool false, .bool false]⟩, ⟨true, .cells [.bool true, .bool true, .bool false, .bool false, .bool false, .bool false, .bool false, .bool false, .bool false, .bool false, .bool false, .bool false]⟩, ⟨true, .cells [.bool true, .bool true, .bool false, .bool false, .bool false, .bool false, .bool false, .bool false, .bool false, .bool false, .bool false, .bool false]⟩, ⟨true, .cells [.bool true, .bool true, .bool false, .bool false, .bool false, .bool false, .bool false, .bool false, .bool false, .bool false, .bool false, .bool false]⟩, ⟨true, .cells [.bool true, .bool true, .bool false, .bool false, .bool false, .bool false, .bool false, .bool false, .bool false, .bool false, .bool false, .bool false]⟩, ⟨true, .cells [.bool true, .bool false, .bool false, .bool false, .bool false, .bool false, .bool false, .bool false, .bool false, .bool false, .bool false, .bool false]⟩, ⟨true, .cells [.bool true, .bool false, .bool false, .bool false, .bool false, .bool false, .bool false, .bool false, .bool true, .bool false, .bool true, .bool false]⟩, ⟨true, .cells [.bool true, .bool false, .bool false, .bool false, .bool false, .bool false, .bool false, .bool false, .bool false, .bool false, .bool false, .bool false]⟩, ⟨true, .cells [.bool true, .bool false, .bool false, .bool false, .bool false, .bool false, .bool false, .bool false, .bool false, .bool false, .bool false, .bool false]⟩] 
theorem wc_pre {a b c d k r : CC} {Q : AX → Env → St → Prop} {e : Env} {s : St} (h : WC Tryz.prog tys (.seq (.seq a (.seq b (.seq c d))) (.seq k r)) Q e s) : WC Tryz.prog tys (.seq a (.seq b (.seq c (.seq (.seq d k) r)))) Q e s := by
  refine WC.mono a (fun x e s hx => ?_) _ _ h
  cases x with
  | normal =>
    refine WC.mono b (fun x e s hx => ?_) _ _ hx
    cases x with
    | normal =>
      refine WC.mono c (fun x e s hx => ?_) _ _ hx
      cases x with
      | normal =>
        refine WC.mono d (fun x e s hx => ?_) _ _ hx
        cases x with
        | normal => exact WC.mono k (fun x e s hx => by cases x <;> exact hx) _ _ hx
        | exit i => exact hx
        | ret => exact hx
      | exit i => exact hx
      | ret => exact hx
    | exit i => exact hx
    | ret => exact hx
  | exit i => exact hx
  | ret => exact hx
theorem below_raw : AC Tryz.prog 43 [.v (.sl 5 0 12 8 none)] gBelow (fun y t => y = .v (.sl 60 0 12 1 none) ∧ t = s43_12) := by
  refine ac_of_wc tys_ok hm fnis43 (by decide) ?_
  have hcode : fr43.code = cc43 := rfl
  rw [hcode, cc43_eq]
  have h0 := run43_0
  cases hr : runC tys cal43 1000 pre43 (argEnv 0 [.v (.sl 5 0 12 8 none)]) gBelow with
  | none => rw [hr] at h0; cases h0
  | some p =>
    rw [hr] at h0
    obtain ⟨x, e, s⟩ := p
    simp only [Option.map_some, Option.some.injEq, Prod.mk.injEq] at h0
    obtain ⟨rfl, he, rfl⟩ := h0
    have hp : WC Tryz.prog tys pre43 (fun x e s => x = .normal ∧ e.keep [0, 3, 9] = e43_0 ∧ s = s43_0) (argEnv 0 [.v (.sl 5 0 12 8 none)]) gBelow := wc_run cal43_ok 1000 hr ⟨rfl, he, rfl⟩
    have hall : ∀ e : Env, e.keep [0, 3, 9] = e43_0 → WC Tryz.prog tys (.seq (.block 4 (.loop [0, 3, 9] q43)) cc43.r.r.r.r) (Ends tys fr43.res (fun y t => y = .v (.sl 60 0 12 1 none) ∧ t = s43_12)) e s43_0 := by
      intro e he
      show WC Tryz.prog tys (.loop [0, 3, 9] q43) _ e s43_0
      refine wc_loop_run cal43_ok 1000 (4 + (4 + 100)) (x := .exit 4) (e' := e43_12) (s' := s43_12) ?_ ?_
      · rw [he, iter_add (4 + 100) run43_4, iter_add 100 run43_8]; exact run43_12
      · show WC Tryz.prog tys cc43.r.r.r.r _ e43_12 s43_12
        refine wc_run cal43_ok 1000 (x := .ret) (e' := (2, .v (.sl 60 0 12 1 none)) :: (104, .v (.sl 60 0 12 1 none)) :: e43_12) (s' := s43_12) (by kernel_rfl) ?_
        exact ⟨_, by kernel_rfl, rfl, rfl⟩
    refine wc_pre (show WC Tryz.prog tys pre43 _ _ _ from WC.mono pre43 (fun x e s hx => ?_) _ _ hp)
    obtain ⟨rfl, he, rfl⟩ := hx
    exact hall e he
theorem below_ac : AC Tryz.prog 43 [.v (.sl 5 0 12 8 none)] gBelow (fun y t => y = .v (.sl 11 0 12 1 none) ∧ t = gBelow.news outBelow) :=
  AC.told (o := some (.v (.sl 60 0 12 1 none), s43_12)) (fun _ _ h => by cases h; exact below_raw) (smallAll_spec (by kernel_rfl)) (by kernel_rfl) (L := [60, 12, 16, 20, 24, 28, 32, 36, 40, 44, 48, 53, 57]) (by kernel_rfl) (by kernel_rfl) (by kernel_rfl)
end Go.Proofs.YtijkkgloennglaaGreatDoor.Ab
