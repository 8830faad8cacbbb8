/-
  A long closed run, in pieces. No condition.
-/
import Derived.Test.YtijkkgloennglaaGreatDoorFw21
set_option linter.all false
namespace Go.Proofs.YtijkkgloennglaaGreatDoor.Ab
open Go Go.RowKit

/-- so many rounds of a loop, none of which leaves it -/
def iterN (f : Env → St → Option (AX × Env × St)) (ks : List Nat) : Nat → Env → St → Option (Env × St)
  | 0, e, s => some (e, s)
  | n + 1, e, s => match f e s with
    | some (.normal, e', s') => iterN f ks n (e'.keep ks) s'
    | _ => none
theorem iter_add {f : Env → St → Option (AX × Env × St)} {ks : List Nat} : ∀ {m : Nat} {e e' : Env} {s s' : St} (n : Nat), iterN f ks m e s = some (e', s') → iter f ks (m + n) e s = iter f ks n e' s'
  | 0, e, e', s, s', n, h => by cases h; rw [Nat.zero_add]
  | m + 1, e, e', s, s', n, h => by
    simp only [iterN] at h
    rw [show m + 1 + n = (m + n) + 1 by omega]
    simp only [iter]
    split at h
    · rename_i e1 s1 h1
      rw [h1]
      exact iter_add n h
    · cases h

section
variable {P : Program} {T : Tys}
theorem wc_run {call : CallE} (hc : CallOk P call) (fuel : Nat) {c : CC} {Q : AX → Env → St → Prop} {e e' : Env} {s s' : St} {x : AX} (h : runC T call fuel c e s = some (x, e', s')) (hq : Q x e' s') : WC P T c Q e s := runC_sound hc fuel _ _ _ _ _ _ _ h hq
theorem wc_seq_run {call : CallE} (hc : CallOk P call) (fuel : Nat) {a b : CC} {Q : AX → Env → St → Prop} {e e' : Env} {s s' : St} (h : runC T call fuel a e s = some (.normal, e', s')) (hq : WC P T b Q e' s') : WC P T (.seq a b) Q e s := runC_sound hc fuel a _ _ _ _ _ _ h hq
theorem wc_loop_run {call : CallE} (hc : CallOk P call) (fuel : Nat) {ks : List Nat} {b : CC} {Q : AX → Env → St → Prop} {e e' : Env} {s s' : St} {x : AX} (n : Nat) (h : iter (runC T call fuel b) ks n (e.keep ks) s = some (x, e', s')) (hq : Q x e' s') : WC P T (.loop ks b) Q e s := by
  refine ⟨fun n e s => iter (runC T call fuel b) ks n e s = some (x, e', s'), n, h, fun n e s hI => ?_⟩
  cases n with
  | zero => cases hI
  | succ n =>
    simp only [iter] at hI
    split at hI
    · rename_i e1 s1 h1
      exact runC_sound hc fuel b _ _ _ _ _ _ h1 ⟨n, by omega, hI⟩
    · rename_i hne
      refine runC_sound hc fuel b _ _ _ _ _ _ hI ?_
      cases x with
      | normal => exact absurd hI (hne _ _)
      | exit i => exact hq
      | ret => exact hq
end
end Go.Proofs.YtijkkgloennglaaGreatDoor.Ab
