/-
  A run that was told once, used wherever what comes in looks the same; a call of which all outcomes answer alike. No condition.
-/
import Derived.Test.YtijkkgloennglaaGreatDoorFw22
set_option linter.all false
namespace Go.Proofs.YtijkkgloennglaaGreatDoor.Ab
open Go Go.RowKit

abbrev Pairs := List (Nat × Nat)
def Pairs.fn (l : Pairs) : Ren := fun b => match l with
  | [] => none
  | p :: r => if Nat.beq p.1 b then some p.2 else Pairs.fn r b
theorem Pairs.fn_mem : ∀ {l : Pairs} {b c : Nat}, Pairs.fn l b = some c → (b, c) ∈ l
  | [], b, c, h => by simp [Pairs.fn] at h
  | p :: r, b, c, h => by
    unfold Pairs.fn at h
    split at h
    · rename_i e; cases h; have := Nat.eq_of_beq_eq_true e; subst this; simp
    · exact List.mem_cons_of_mem _ (Pairs.fn_mem h)
/-- which of two like values' places go together -/
def unif : AV → AV → Pairs → Pairs
  | .ptr b _, .ptr c _, l => (b, c) :: l
  | .sl b .., .sl c .., l => (b, c) :: l
  | .map b, .map c, l => (b, c) :: l
  | _, _, l => l
def unifL : List AV → List AV → Pairs → Pairs
  | a :: r, b :: q, l => unifL r q (unif a b l)
  | _, _, l => l
def unifE : List (AV × AV) → List (AV × AV) → Pairs → Pairs
  | a :: r, b :: q, l => unifE r q (unif a.2 b.2 (unif a.1 b.1 l))
  | _, _, l => l
def unifT : List TV → List TV → Pairs → Pairs
  | .v a :: r, .v b :: q, l => unifT r q (unif a b l)
  | .agg a :: r, .agg b :: q, l => unifT r q (unifL a b l)
  | _, _, l => l
def unifK : BK → BK → Pairs → Pairs
  | .cells a, .cells b, l => unifL a b l
  | .map a, .map b, l => unifE a b l
  | _, _, l => l
def hasFst (b : Nat) : Pairs → Bool
  | [] => false
  | p :: r => Nat.beq p.1 b || hasFst b r
/-- all places that are come to -/
def unifAll (g s : St) : Nat → Pairs → Pairs → Pairs
  | 0, _, done => done
  | _ + 1, [], done => done
  | n + 1, p :: todo, done => if hasFst p.1 done then unifAll g s n todo done else
    match g.get p.1, s.get p.2 with
    | some B, some B' => unifAll g s n (unifK B.k B'.k todo) (p :: done)
    | _, _ => unifAll g s n todo (p :: done)
def globs : Nat → Pairs
  | 0 => []
  | n + 1 => (n, n) :: globs n
def pairsOk (g : St) (ρ : Ren) (s : St) : Pairs → Bool
  | [] => true
  | p :: r => Nat.blt p.1 g.next && Nat.blt p.2 s.next && (match g.get p.1 with
    | some B => (match B.k.ren ρ, s.get p.2 with | some k, some B' => decide (k = B'.k) | _, _ => false)
    | none => true) && pairsOk g ρ s r
def globsOk (ρ : Ren) : Nat → Bool
  | 0 => true
  | n + 1 => (match ρ n with | some c => Nat.beq c n | none => false) && globsOk ρ n
def holdsB (g : St) (l : Pairs) (s : St) : Bool := Nat.beq g.gl s.gl && globsOk l.fn g.gl && pairsOk g l.fn s l
theorem pairsOk_spec {g s : St} {ρ : Ren} : ∀ {l : Pairs}, pairsOk g ρ s l = true → ∀ b c, (b, c) ∈ l → b < g.next ∧ c < s.next ∧ ∀ B, g.get b = some B → ∃ k' o, B.k.ren ρ = some k' ∧ s.get c = some ⟨o, k'⟩
  | [], _, b, c, h => by simp at h
  | p :: r, h, b, c, hm => by
    simp only [pairsOk, Bool.and_eq_true] at h
    rcases List.mem_cons.1 hm with e | hm
    · subst e
      refine ⟨Nat.le_of_ble_eq_true h.1.1.1, Nat.le_of_ble_eq_true h.1.1.2, fun B hB => ?_⟩
      have h2 := h.1.2
      simp only at h2
      rw [hB] at h2
      simp only at h2
      split at h2
      · rename_i k B' h3 h4
        have := of_decide_eq_true h2; subst this
        exact ⟨B'.k, B'.own, h3, h4⟩
      · cases h2
    · exact pairsOk_spec h.2 b c hm
theorem globsOk_spec {ρ : Ren} : ∀ {n : Nat}, globsOk ρ n = true → ∀ i, i < n → ρ i = some i
  | 0, _, i, h => by omega
  | n + 1, h, i, hi => by
    simp only [globsOk, Bool.and_eq_true] at h
    by_cases e : i = n
    · subst e
      have h1 := h.1
      split at h1
      · rename_i c hc; rw [hc, Nat.eq_of_beq_eq_true h1]
      · cases h1
    · exact globsOk_spec h.2 i (by omega)
theorem holdsB_spec {g s : St} {l : Pairs} (hg : Small g) (h : holdsB g l s = true) : Holds g l.fn s := by
  simp only [holdsB, Bool.and_eq_true] at h
  refine ⟨hg.ro, hg.fresh, Nat.eq_of_beq_eq_true h.1.1, globsOk_spec h.1.2, fun b c hc => ?_, fun b B c hB hc => ?_⟩
  · have := pairsOk_spec h.2 b c (Pairs.fn_mem hc); exact ⟨this.1, this.2.1⟩
  · exact (pairsOk_spec h.2 b c (Pairs.fn_mem hc)).2.2 B hB
def upTo (n : Nat) : Nat → List Nat
  | 0 => []
  | k + 1 => n :: upTo (n + 1) k
theorem upTo_ge : ∀ {k n : Nat}, ∀ b ∈ upTo n k, n ≤ b
  | 0, n, b, h => by simp [upTo] at h
  | k + 1, n, b, h => by
    simp only [upTo] at h
    rcases List.mem_cons.1 h with rfl | h
    · exact Nat.le_refl _
    · have := upTo_ge b h; omega
theorem upTo_nodup : ∀ {k n : Nat}, (upTo n k).Nodup
  | 0, n => List.nodup_nil
  | k + 1, n => List.nodup_cons.2 ⟨fun h => by have := upTo_ge _ h; omega, upTo_nodup⟩

/-- a told run, elsewhere -/
def shipO (args0 : List TV) (g : St) (x0 : TV) (B0 : List Blk) (args : List TV) (s : St) : Option (TV × St) :=
  let l := unifAll g s 1000 (unifT args0 args (globs g.gl)) []
  if holdsB g l s then
    match renT l.fn args0 with
    | some a => if a = args then
        match x0.ren (renOut l.fn g.next s.next (upTo g.next B0.length)), outB (renOut l.fn g.next s.next (upTo g.next B0.length)) (g.news B0) (upTo g.next B0.length) with
        | some x, some Bs => some (x, s.news Bs)
        | _, _ => none
      else none
    | none => none
  else none
section
variable {P : Program} {T : Tys}
theorem shipO_ok {f : FuncId} {args0 args : List TV} {g s s' : St} {x0 x : TV} {B0 : List Blk} (h : AC P f args0 g (fun y t => y = x0 ∧ t = g.news B0)) (hg : Small g) (e : shipO args0 g x0 B0 args s = some (x, s')) : AC P f args s (fun y t => y = x ∧ t = s') := by
  unfold shipO at e
  simp only at e
  split at e
  · rename_i hh
    split at e
    · rename_i a ha
      split at e
      · rename_i hea
        subst hea
        split at e
        · rename_i x' Bs h1 h2
          cases e
          exact AC.ship h (holdsB_spec hg hh) ha upTo_ge upTo_nodup h1 h2
        · cases e
      · cases e
    · cases e
  · cases e

/-- a call that ends alike in any order, and leaves all that was there -/
def allO (T : Tys) (F : FuncId → Option FR) (call : CallE) (fuel : Nat) (f : FuncId) (x : TV) (args : List TV) (s : St) : Option (TV × St) :=
  if x.plain && chkF T F call fuel (fun y s' => decide (y = x) && keepsB s s') f args s then some (x, s) else none
theorem allO_ok (hT : tysB P T = true) (hm : P.follows .mixedOrders = true) {F : FuncId → Option FR} (hF : ∀ f r, F f = some r → FnIs P f r) {call : CallE} (hc : CallOk P call) {fuel : Nat} {f : FuncId} {x y : TV} {args : List TV} {s s' : St} (e : allO T F call fuel f x args s = some (y, s')) : AC P f args s (fun z t => z = y ∧ t = s') := by
  unfold allO at e
  split at e
  · rename_i h
    simp only [Bool.and_eq_true] at h
    cases e
    refine (chkF_sound hT hm hF hc h.2).forget (Q := fun z => z = x) (fun z t hz => ?_)
    simp only [Bool.and_eq_true, decide_eq_true_eq] at hz
    exact ⟨hz.1, by rw [hz.1]; exact h.1, (keepsB_spec hz.2).2⟩
  · cases e
theorem CallOk.orElse {a b : CallE} (ha : CallOk P a) (hb : CallOk P b) : CallOk P (fun f args s => match a f args s with | some r => some r | none => b f args s) := by
  intro f args s x s' h
  simp only at h
  split at h
  · rename_i r hr; cases h; exact ha _ _ _ _ _ hr
  · exact hb _ _ _ _ _ h
end
end Go.Proofs.YtijkkgloennglaaGreatDoor.Ab
