/-
  A closed run, and what of it stays, told in small words. No condition.
-/
import Derived.Test.YtijkkgloennglaaGreatDoorFw20
set_option linter.all false
namespace Go.Proofs.YtijkkgloennglaaGreatDoor.Ab
open Go Go.RowKit

/-- all old blocks as they are -/
def renId (n : Nat) : Ren := fun b => if Nat.blt b n then some b else none
/-- what a run answers, and the blocks that stay of it -/
def outOf (n : Nat) (L : List Nat) : Option (TV × St) → Option (TV × List Blk)
  | some (x, t) => match x.ren (renOut (renId n) n n L), outB (renOut (renId n) n n L) t L with
    | some x', some Bs => some (x', Bs)
    | _, _ => none
  | none => none
def geAll (n : Nat) : List Nat → Bool
  | [] => true
  | b :: r => Nat.ble n b && geAll n r
def noDup : List Nat → Bool
  | [] => true
  | b :: r => !(r.any (Nat.beq b)) && noDup r
theorem geAll_spec {n : Nat} : ∀ {L : List Nat}, geAll n L = true → ∀ b ∈ L, n ≤ b
  | [], _, b, hb => by simp at hb
  | c :: r, h, b, hb => by
    simp only [geAll, Bool.and_eq_true] at h
    rcases List.mem_cons.1 hb with rfl | hb
    · exact Nat.le_of_ble_eq_true h.1
    · exact geAll_spec h.2 b hb
theorem noDup_spec : ∀ {L : List Nat}, noDup L = true → L.Nodup
  | [], _ => List.nodup_nil
  | c :: r, h => by
    simp only [noDup, Bool.and_eq_true, Bool.not_eq_true', List.any_eq_false] at h
    refine List.nodup_cons.2 ⟨fun hm => ?_, noDup_spec h.2⟩
    exact h.1 c hm (Nat.beq_refl c)

/-- memory that nobody may write, in which all that is spoken of is there -/
structure Small (g : St) : Prop where
  ro : ∀ b B, g.get b = some B → B.own = false
  fresh : ∀ b, g.next ≤ b → g.get b = none
  gl : g.gl ≤ g.next
  closed : ∀ b B, g.get b = some B → B.k.ren (renId g.next) = some B.k
def smallB (g : St) : Nat → Bool
  | 0 => true
  | b + 1 => (match g.get b with | some B => !B.own && (match B.k.ren (renId g.next) with | some k => decide (k = B.k) | none => false) | none => true) && smallB g b
theorem smallB_spec {g : St} : ∀ {n : Nat}, smallB g n = true → ∀ b, b < n → ∀ B, g.get b = some B → B.own = false ∧ B.k.ren (renId g.next) = some B.k
  | 0, _, b, hb, _, _ => by omega
  | n + 1, h, b, hb, B, hB => by
    simp only [smallB, Bool.and_eq_true] at h
    by_cases e : b = n
    · subst e
      rw [hB] at h
      simp only [Bool.and_eq_true, Bool.not_eq_true'] at h
      refine ⟨h.1.1, ?_⟩
      have := h.1.2
      split at this
      · rename_i k hk; rw [hk, of_decide_eq_true this]
      · cases this
    · exact smallB_spec h.2 b (by omega) B hB

/-- no block from a number on -/
def Tr.under (n : Nat) : Tr → Nat → Nat → Bool
  | .e, _, _ => true
  | .n v l r, a, b => (match v with | some _ => Nat.blt b n | none => true) && Tr.under n l (2 * a) (a + b) && Tr.under n r (2 * a) (2 * a + b)
theorem Tr.under_spec {n : Nat} : ∀ {t : Tr} {a b j : Nat} {B : Blk}, Tr.under n t a b = true → t.get j = some B → a * j + b < n
  | .e, _, _, _, _, _, h => by simp [Tr.get] at h
  | .n v l r, a, b, 0, B, hB, h => by
    simp only [Tr.get] at h; subst h
    simp only [Tr.under, Bool.and_eq_true] at hB
    have := Nat.le_of_ble_eq_true hB.1.1
    omega
  | .n v l r, a, b, j + 1, B, hB, h => by
    simp only [Tr.under, Bool.and_eq_true] at hB
    simp only [Tr.get] at h
    split at h
    · rename_i hj
      have := Tr.under_spec hB.1.2 h
      have e : 2 * a * (j / 2) + (a + b) = a * (j + 1) + b := by
        have h1 : j = 2 * (j / 2) := by omega
        calc 2 * a * (j / 2) + (a + b) = a * (2 * (j / 2)) + (a + b) := by rw [Nat.mul_comm 2 a, Nat.mul_assoc]
          _ = a * (j + 1) + b := by rw [← h1, Nat.mul_add]; omega
      rwa [e] at this
    · rename_i hj
      have := Tr.under_spec hB.2 h
      have e : 2 * a * (j / 2) + (2 * a + b) = a * (j + 1) + b := by
        have h1 : j = 2 * (j / 2) + 1 := by omega
        calc 2 * a * (j / 2) + (2 * a + b) = a * (2 * (j / 2) + 1) + a + b := by rw [Nat.mul_add, Nat.mul_comm 2 a, Nat.mul_assoc]; omega
          _ = a * (j + 1) + b := by rw [← h1, Nat.mul_add]; omega
      rwa [e] at this
def smallAll (g : St) : Bool := smallB g g.next && Tr.under g.next g.mem 1 0 && Nat.ble g.gl g.next
theorem smallAll_spec {g : St} (h : smallAll g = true) : Small g := by
  simp only [smallAll, Bool.and_eq_true] at h
  have hf : ∀ b, g.next ≤ b → g.get b = none := fun b hb => by
    cases hB : g.get b with
    | none => rfl
    | some B => have := Tr.under_spec h.1.2 hB; simp only [Nat.one_mul, Nat.add_zero] at this; omega
  have hlt : ∀ b B, g.get b = some B → b < g.next := fun b B hB => by
    apply Decidable.byContradiction; intro hn
    rw [hf b (by omega)] at hB; cases hB
  exact ⟨fun b B hB => (smallB_spec h.1.1 b (hlt b B hB) B hB).1, hf, Nat.le_of_ble_eq_true h.2, fun b B hB => (smallB_spec h.1.1 b (hlt b B hB) B hB).2⟩

section
variable {P : Program} {T : Tys}
theorem Small.holds {g : St} (h : Small g) : Holds g (renId g.next) g := by
  have hid : ∀ b c, renId g.next b = some c → b = c ∧ b < g.next := fun b c hc => by
    simp only [renId] at hc
    split at hc
    · rename_i hb; cases hc; exact ⟨rfl, Nat.le_of_ble_eq_true hb⟩
    · cases hc
  refine ⟨h.ro, h.fresh, rfl, fun i hi => ?_, fun b c hc => ?_, fun b B c hB hc => ?_⟩
  · have := h.gl
    simp only [renId]; rw [if_pos]
    show Nat.ble (i + 1) g.next = true
    exact Nat.ble_eq_true_of_le (by omega)
  · obtain ⟨rfl, h2⟩ := hid b c hc; exact ⟨h2, h2⟩
  · obtain ⟨rfl, h2⟩ := hid b c hc
    exact ⟨B.k, B.own, h.closed b B hB, hB⟩

/-- a run in small memory, told by what stays -/
theorem AC.told {f : FuncId} {args : List TV} {g : St} {o : Option (TV × St)} {x : TV} {Bs : List Blk} {L : List Nat}
    (hc : ∀ x1 g1, o = some (x1, g1) → AC P f args g (fun y t => y = x1 ∧ t = g1)) (hs : Small g) (ha : renT (renId g.next) args = some args) (hL : geAll g.next L = true) (hn : noDup L = true)
    (h : outOf g.next L o = some (x, Bs)) : AC P f args g (fun y t => y = x ∧ t = g.news Bs) := by
  unfold outOf at h
  split at h
  · rename_i x1 g1
    split at h
    · rename_i x2 B2 h1 h2
      cases h
      exact AC.ship (hc x1 g1 rfl) hs.holds ha (geAll_spec hL) (noDup_spec hn) h1 h2
    · cases h
  · cases h
end
end Go.Proofs.YtijkkgloennglaaGreatDoor.Ab
