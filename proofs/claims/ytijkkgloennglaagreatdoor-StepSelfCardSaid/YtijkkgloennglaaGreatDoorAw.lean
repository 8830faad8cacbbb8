/-
  The anchor, in any memory that holds the listed variables. No condition.
-/
import Derived.Test.YtijkkgloennglaaGreatDoorAg
set_option linter.all false
set_option maxRecDepth 100000
namespace Go.Proofs.YtijkkgloennglaaGreatDoor.Ab
open Go Go.RowKit
/-- the anchor, in any memory that holds the listed variables -/
theorem awake_in {s : St} (hgl : s.gl = 5) (hk : ∀ b B, g0.get b = some B → s.get b = some B) : AC Tryz.prog 7 [] s (fun r t => r = .v (.bool true) ∧ t = s) := by
  have h := ac7
  refine (AC.lift (P := Tryz.prog) (g := g0) (s := s) (Q := fun r => r = .v (.bool true)) h rfl (by rintro x rfl; rfl) (by rw [hgl]; rfl) (Nat.le_refl _) ?_ ?_ ?_)
  · intro b B hB
    exact ⟨small0.ro b B hB, hk b B hB⟩
  · intro b B hB
    obtain ⟨vs, hm, _⟩ := startMem_get gl07 b B hB
    simp only [gl07, List.mem_cons, Prod.mk.injEq, List.mem_nil_iff, or_false] at hm
    show b < 5
    rcases hm with ⟨rfl, _⟩ | ⟨rfl, _⟩ <;> decide
  · intro b B hB
    obtain ⟨vs, hm, rfl⟩ := startMem_get gl07 b B hB
    simp only [gl07, List.mem_cons, Prod.mk.injEq, List.mem_nil_iff, or_false] at hm
    refine ⟨vs, rfl, ?_⟩
    rcases hm with ⟨_, rfl⟩ | ⟨_, rfl⟩ <;> decide +kernel

end Go.Proofs.YtijkkgloennglaaGreatDoor.Ab
