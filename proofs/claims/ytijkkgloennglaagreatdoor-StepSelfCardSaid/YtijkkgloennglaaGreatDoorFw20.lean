/-
  What was done in small memory may be done in any memory in which what comes in looks the same; what it leaves is laid behind. No condition.
-/
import Derived.Test.YtijkkgloennglaaGreatDoorFw19
set_option linter.all false
namespace Go.Proofs.YtijkkgloennglaaGreatDoor.Ab
open Go Go.RowKit

abbrev Ren := Nat → Option Nat
def renPs (ρ : Ren) : List (Nat × Nat) → Option (List (Nat × Nat))
  | [] => some []
  | (b, o) :: r => match ρ b, renPs ρ r with
    | some c, some l => some ((c, o) :: l)
    | _, _ => none
def AV.ren (ρ : Ren) : AV → Option AV
  | .ptr b o => match ρ b with | some c => some (.ptr c o) | none => none
  | .sl b off len es cap => match ρ b with | some c => some (.sl c off len es cap) | none => none
  | .map b => match ρ b with | some c => some (.map c) | none => none
  | .fn f ps qs => match renPs ρ ps, renPs ρ qs with
    | some ps', some qs' => some (.fn f ps' qs')
    | _, _ => none
  | a => some a
def renL (ρ : Ren) : List AV → Option (List AV)
  | [] => some []
  | a :: r => match a.ren ρ, renL ρ r with
    | some a', some l => some (a' :: l)
    | _, _ => none
def renC (ρ : Ren) : List (Bool × List AV) → Option (List (Bool × List AV))
  | [] => some []
  | (b, cs) :: r => match renL ρ cs, renC ρ r with
    | some cs', some l => some ((b, cs') :: l)
    | _, _ => none
def TV.ren (ρ : Ren) : TV → Option TV
  | .v a => match a.ren ρ with | some a' => some (.v a') | none => none
  | .agg cs => match renL ρ cs with | some l => some (.agg l) | none => none
  | .tup xs => match renC ρ xs with | some l => some (.tup l) | none => none
def renT (ρ : Ren) : List TV → Option (List TV)
  | [] => some []
  | a :: r => match a.ren ρ, renT ρ r with
    | some a', some l => some (a' :: l)
    | _, _ => none
def renE (ρ : Ren) : List (AV × AV) → Option (List (AV × AV))
  | [] => some []
  | (a, b) :: r => match a.ren ρ, b.ren ρ, renE ρ r with
    | some a', some b', some l => some ((a', b') :: l)
    | _, _, _ => none
def BK.ren (ρ : Ren) : BK → Option BK
  | .cells cs => match renL ρ cs with | some l => some (.cells l) | none => none
  | .map es => match renE ρ es with | some l => some (.map l) | none => none
  | .siter s p => some (.siter s p)
  | .miter b n seen => match ρ b with | some c => some (.miter c n seen) | none => none

/-- what is known of places by one renaming, and by another -/
def RenOk (ρ : Ren) (μ μ' : Mu) : Prop := ∀ b c, ρ b = some c → ∀ m, μ b = some m → μ' c = some m
def RenBack (ρ : Ren) (μ μ' : Mu) : Prop := ∀ b c, ρ b = some c → ∀ m, μ' c = some m → μ b = some m

theorem renPs_fwd {ρ : Ren} {μ μ' : Mu} (h : RenOk ρ μ μ') : ∀ {l l' : List (Nat × Nat)} {vs : List Value}, renPs ρ l = some l' → All2 (VP μ) l vs → All2 (VP μ') l' vs
  | [], _, _, e, H => by cases e; cases H; exact .nil
  | (b, o) :: r, _, _, e, H => by
    cases H with
    | cons h1 h2 =>
      simp only [renPs] at e
      split at e
      · rename_i c l hc hl
        cases e
        obtain ⟨m, hm, rfl⟩ := h1
        exact .cons ⟨m, h b c hc m hm, rfl⟩ (renPs_fwd h hl h2)
      · cases e
theorem renPs_back {ρ : Ren} {μ μ' : Mu} (h : RenBack ρ μ μ') : ∀ {l l' : List (Nat × Nat)} {vs : List Value}, renPs ρ l = some l' → All2 (VP μ') l' vs → All2 (VP μ) l vs
  | [], _, _, e, H => by cases e; cases H; exact .nil
  | (b, o) :: r, _, _, e, H => by
    simp only [renPs] at e
    split at e
    · rename_i c l hc hl
      cases e
      cases H with
      | cons h1 h2 =>
        obtain ⟨m, hm, rfl⟩ := h1
        exact .cons ⟨m, h b c hc m hm, rfl⟩ (renPs_back h hl h2)
    · cases e
theorem AV.ren_fwd {ρ : Ren} {μ μ' : Mu} (h : RenOk ρ μ μ') {a a' : AV} {v : Value} (e : a.ren ρ = some a') (H : VA μ a v) : VA μ' a' v := by
  cases a with
  | ptr b o =>
    simp only [AV.ren] at e; split at e
    · rename_i c hc; cases e; obtain ⟨m, hm, rfl⟩ := H; exact ⟨m, h b c hc m hm, rfl⟩
    · cases e
  | sl b off len es cap =>
    simp only [AV.ren] at e; split at e
    · rename_i c hc; cases e; obtain ⟨m, o, k, hm, r⟩ := H; exact ⟨m, o, k, h b c hc m hm, r⟩
    · cases e
  | map b =>
    simp only [AV.ren] at e; split at e
    · rename_i c hc; cases e; obtain ⟨m, hm, r⟩ := H; exact ⟨m, h b c hc m hm, r⟩
    · cases e
  | fn f ps qs =>
    simp only [AV.ren] at e; split at e
    · rename_i ps' qs' h1 h2; cases e; obtain ⟨p, q, hv, g1, g2⟩ := H; exact ⟨p, q, hv, renPs_fwd h h1 g1, renPs_fwd h h2 g2⟩
    · cases e
  | _ => simp only [AV.ren, Option.some.injEq] at e; subst e; exact H
theorem AV.ren_back {ρ : Ren} {μ μ' : Mu} (h : RenBack ρ μ μ') {a a' : AV} {v : Value} (e : a.ren ρ = some a') (H : VA μ' a' v) : VA μ a v := by
  cases a with
  | ptr b o =>
    simp only [AV.ren] at e; split at e
    · rename_i c hc; cases e; obtain ⟨m, hm, rfl⟩ := H; exact ⟨m, h b c hc m hm, rfl⟩
    · cases e
  | sl b off len es cap =>
    simp only [AV.ren] at e; split at e
    · rename_i c hc; cases e; obtain ⟨m, o, k, hm, r⟩ := H; exact ⟨m, o, k, h b c hc m hm, r⟩
    · cases e
  | map b =>
    simp only [AV.ren] at e; split at e
    · rename_i c hc; cases e; obtain ⟨m, hm, r⟩ := H; exact ⟨m, h b c hc m hm, r⟩
    · cases e
  | fn f ps qs =>
    simp only [AV.ren] at e; split at e
    · rename_i ps' qs' h1 h2; cases e; obtain ⟨p, q, hv, g1, g2⟩ := H; exact ⟨p, q, hv, renPs_back h h1 g1, renPs_back h h2 g2⟩
    · cases e
  | _ => simp only [AV.ren, Option.some.injEq] at e; subst e; exact H
theorem renL_fwd {ρ : Ren} {μ μ' : Mu} (h : RenOk ρ μ μ') : ∀ {l l' : List AV} {vs : List Value}, renL ρ l = some l' → VL μ l vs → VL μ' l' vs
  | [], _, _, e, H => by cases e; cases H; exact .nil
  | a :: r, _, _, e, H => by
    cases H with
    | cons h1 h2 =>
      simp only [renL] at e
      split at e
      · rename_i a' l ha hl
        cases e
        exact .cons (AV.ren_fwd h ha h1) (renL_fwd h hl h2)
      · cases e
theorem renL_len {ρ : Ren} : ∀ {l l' : List AV}, renL ρ l = some l' → l.length = l'.length
  | [], _, e => by cases e; rfl
  | a :: r, _, e => by
    simp only [renL] at e
    split at e
    · rename_i a' l ha hl; cases e; simp [renL_len hl]
    · cases e
theorem renL_get {ρ : Ren} : ∀ {l l' : List AV}, renL ρ l = some l' → ∀ (i : Nat) (a : AV), l[i]? = some a → ∃ a', l'[i]? = some a' ∧ a.ren ρ = some a'
  | [], _, e => by intro i a h; simp at h
  | a :: r, _, e => by
    simp only [renL] at e
    split at e
    · rename_i a' l ha hl
      cases e
      intro i x hi
      cases i with
      | zero => simp at hi; subst hi; exact ⟨a', by simp, ha⟩
      | succ i => simpa using renL_get hl i x (by simpa using hi)
    · cases e
theorem renL_get' {ρ : Ren} : ∀ {l l' : List AV}, renL ρ l = some l' → ∀ (i : Nat) (a' : AV), l'[i]? = some a' → ∃ a, l[i]? = some a ∧ a.ren ρ = some a'
  | [], _, e => by intro i a h; cases e; simp at h
  | a :: r, _, e => by
    simp only [renL] at e
    split at e
    · rename_i a' l ha hl
      cases e
      intro i x hi
      cases i with
      | zero => simp at hi; subst hi; exact ⟨a, by simp, ha⟩
      | succ i => simpa using renL_get' hl i x (by simpa using hi)
    · cases e
theorem renC_fwd {ρ : Ren} {μ μ' : Mu} (h : RenOk ρ μ μ') : ∀ {l l' : List (Bool × List AV)} {vs : List Value}, renC ρ l = some l' → All2 (VC μ) l vs → All2 (VC μ') l' vs
  | [], _, _, e, H => by cases e; cases H; exact .nil
  | (b, cs) :: r, _, _, e, H => by
    cases H with
    | cons h1 h2 =>
      simp only [renC] at e
      split at e
      · rename_i cs' l hc hl
        cases e
        refine .cons ?_ (renC_fwd h hl h2)
        cases b with
        | false =>
          obtain ⟨a, rfl, r⟩ := h1
          simp only [renL] at hc
          split at hc
          · rename_i a' l' ha he
            cases he; cases hc
            exact ⟨a', rfl, AV.ren_fwd h ha r⟩
          · cases hc
        | true => obtain ⟨q, hq, r⟩ := h1; exact ⟨q, hq, renL_fwd h hc r⟩
      · cases e
theorem TV.ren_fwd {ρ : Ren} {μ μ' : Mu} (h : RenOk ρ μ μ') {x x' : TV} {v : Value} (e : x.ren ρ = some x') (H : VT μ x v) : VT μ' x' v := by
  cases x with
  | v a =>
    simp only [TV.ren] at e; split at e
    · rename_i a' ha; cases e; exact AV.ren_fwd h ha H
    · cases e
  | agg cs =>
    simp only [TV.ren] at e; split at e
    · rename_i l hl; cases e; obtain ⟨q, hq, r⟩ := H; exact ⟨q, hq, renL_fwd h hl r⟩
    · cases e
  | tup xs =>
    simp only [TV.ren] at e; split at e
    · rename_i l hl; cases e; obtain ⟨q, hq, r⟩ := H; exact ⟨q, hq, renC_fwd h hl r⟩
    · cases e
theorem renL_back {ρ : Ren} {μ μ' : Mu} (h : RenBack ρ μ μ') : ∀ {l l' : List AV} {vs : List Value}, renL ρ l = some l' → VL μ' l' vs → VL μ l vs
  | [], _, _, e, H => by cases e; cases H; exact .nil
  | a :: r, _, _, e, H => by
    simp only [renL] at e
    split at e
    · rename_i a' l ha hl
      cases e
      cases H with
      | cons h1 h2 => exact .cons (AV.ren_back h ha h1) (renL_back h hl h2)
    · cases e
theorem renC_back {ρ : Ren} {μ μ' : Mu} (h : RenBack ρ μ μ') : ∀ {l l' : List (Bool × List AV)} {vs : List Value}, renC ρ l = some l' → All2 (VC μ') l' vs → All2 (VC μ) l vs
  | [], _, _, e, H => by cases e; cases H; exact .nil
  | (b, cs) :: r, _, _, e, H => by
    simp only [renC] at e
    split at e
    · rename_i cs' l hc hl
      cases e
      cases H with
      | cons h1 h2 =>
        refine .cons ?_ (renC_back h hl h2)
        cases b with
        | false =>
          obtain ⟨a', rfl, r⟩ := h1
          cases cs with
          | nil => cases hc
          | cons a q =>
            simp only [renL] at hc
            split at hc
            · rename_i a1 l1 ha he
              cases hc
              cases q with
              | nil => exact ⟨a, rfl, AV.ren_back h ha r⟩
              | cons q1 q2 => have := renL_len he; simp at this
            · cases hc
        | true => obtain ⟨q, hq, r⟩ := h1; exact ⟨q, hq, renL_back h hc r⟩
    · cases e
theorem TV.ren_back {ρ : Ren} {μ μ' : Mu} (h : RenBack ρ μ μ') {x x' : TV} {v : Value} (e : x.ren ρ = some x') (H : VT μ' x' v) : VT μ x v := by
  cases x with
  | v a =>
    simp only [TV.ren] at e; split at e
    · rename_i a' ha; cases e; exact AV.ren_back h ha H
    · cases e
  | agg cs =>
    simp only [TV.ren] at e; split at e
    · rename_i l hl; cases e; obtain ⟨q, hq, r⟩ := H; exact ⟨q, hq, renL_back h hl r⟩
    · cases e
  | tup xs =>
    simp only [TV.ren] at e; split at e
    · rename_i l hl; cases e; obtain ⟨q, hq, r⟩ := H; exact ⟨q, hq, renC_back h hl r⟩
    · cases e
theorem renT_back {ρ : Ren} {μ μ' : Mu} (h : RenBack ρ μ μ') : ∀ {l l' : List TV} {vs : List Value}, renT ρ l = some l' → All2 (VT μ') l' vs → All2 (VT μ) l vs
  | [], _, _, e, H => by cases e; cases H; exact .nil
  | a :: r, _, _, e, H => by
    simp only [renT] at e
    split at e
    · rename_i a' l ha hl
      cases e
      cases H with
      | cons h1 h2 => exact .cons (TV.ren_back h ha h1) (renT_back h hl h2)
    · cases e
theorem renE_fwd {ρ : Ren} {μ μ' : Mu} (h : RenOk ρ μ μ') : ∀ {l l' : List (AV × AV)} {vs : List MapEntry}, renE ρ l = some l' → All2 (fun e (x : MapEntry) => VA μ e.1 x.key ∧ VA μ e.2 x.val) l vs → All2 (fun e (x : MapEntry) => VA μ' e.1 x.key ∧ VA μ' e.2 x.val) l' vs
  | [], _, _, e, H => by cases e; cases H; exact .nil
  | (a, b) :: r, _, _, e, H => by
    cases H with
    | cons h1 h2 =>
      simp only [renE] at e
      split at e
      · rename_i a' b' l ha hb hl
        cases e
        exact .cons ⟨AV.ren_fwd h ha h1.1, AV.ren_fwd h hb h1.2⟩ (renE_fwd h hl h2)
      · cases e
theorem renE_back {ρ : Ren} {μ μ' : Mu} (h : RenBack ρ μ μ') : ∀ {l l' : List (AV × AV)} {vs : List MapEntry}, renE ρ l = some l' → All2 (fun e (x : MapEntry) => VA μ' e.1 x.key ∧ VA μ' e.2 x.val) l' vs → All2 (fun e (x : MapEntry) => VA μ e.1 x.key ∧ VA μ e.2 x.val) l vs
  | [], _, _, e, H => by cases e; cases H; exact .nil
  | (a, b) :: r, _, _, e, H => by
    simp only [renE] at e
    split at e
    · rename_i a' b' l ha hb hl
      cases e
      cases H with
      | cons h1 h2 => exact .cons ⟨AV.ren_back h ha h1.1, AV.ren_back h hb h1.2⟩ (renE_back h hl h2)
    · cases e
theorem BRel.ren_fwd {ρ : Ren} {μ μ' : Mu} (h : RenOk ρ μ μ') {own : Bool} {m : Loc} {hp : Array Obj} {k k' : BK} (e : k.ren ρ = some k') (H : BRel μ own m hp k) : BRel μ' own m hp k' := by
  cases k with
  | cells cs =>
    simp only [BK.ren] at e; split at e
    · rename_i l hl
      cases e
      obtain ⟨c, t, fr, h1, h2, h3, h4, h5⟩ := H
      refine ⟨c, t, fr, h1, h2, by rw [← renL_len hl]; exact h3, fun i a' hi => ?_, h5⟩
      obtain ⟨a, ha, hr⟩ := renL_get' hl i a' hi
      obtain ⟨v, e, r⟩ := h4 i a ha
      exact ⟨v, e, AV.ren_fwd h hr r⟩
    · cases e
  | map es =>
    simp only [BK.ren] at e; split at e
    · rename_i l hl; cases e; obtain ⟨q, c, h1, h2, h3⟩ := H; exact ⟨q, c, h1, renE_fwd h hl h2, h3⟩
    · cases e
  | siter s p => simp only [BK.ren, Option.some.injEq] at e; subst e; exact H
  | miter b n seen =>
    simp only [BK.ren] at e; split at e
    · rename_i c hc; cases e; obtain ⟨h0, m1, h1, h2⟩ := H; exact ⟨h0, m1, h b c hc m1 h1, h2⟩
    · cases e
theorem BRel.ren_back {ρ : Ren} {μ μ' : Mu} (h : RenBack ρ μ μ') {own : Bool} {m : Loc} {hp : Array Obj} {k k' : BK} (e : k.ren ρ = some k') (H : BRel μ' own m hp k') : BRel μ false m hp k := by
  cases k with
  | cells cs =>
    simp only [BK.ren] at e; split at e
    · rename_i l hl
      cases e
      obtain ⟨c, t, fr, h1, h2, h3, h4, h5⟩ := H
      refine ⟨c, t, fr, h1, h2, by rw [renL_len hl]; exact h3, fun i a hi => ?_, fun e => by cases e⟩
      obtain ⟨a', ha, hr⟩ := renL_get hl i a hi
      obtain ⟨v, e, r⟩ := h4 i a' ha
      exact ⟨v, e, AV.ren_back h hr r⟩
    · cases e
  | map es =>
    simp only [BK.ren] at e; split at e
    · rename_i l hl; cases e; obtain ⟨q, c, h1, h2, h3⟩ := H; exact ⟨q, c, h1, renE_back h hl h2, fun e => by cases e⟩
    · cases e
  | siter s p => simp only [BK.ren, Option.some.injEq] at e; subst e; exact H
  | miter b n seen =>
    simp only [BK.ren] at e; split at e
    · rename_i c hc; cases e; obtain ⟨h0, m1, h1, h2⟩ := H; exact ⟨h0, m1, h b c hc m1 h1, h2⟩
    · cases e

/-- blocks laid behind -/
def St.news (s : St) : List Blk → St
  | [] => s
  | B :: l => (s.new B).news l
theorem St.news_next : ∀ (l : List Blk) (s : St), (s.news l).next = s.next + l.length
  | [], s => rfl
  | B :: l, s => by simp only [St.news]; rw [St.news_next l, St.next_new]; simp; omega
theorem St.news_gl : ∀ (l : List Blk) (s : St), (s.news l).gl = s.gl
  | [], s => rfl
  | B :: l, s => by simp only [St.news]; rw [St.news_gl l, St.gl_new]
theorem St.news_old : ∀ (l : List Blk) (s : St) (b : Nat), b < s.next → (s.news l).get b = s.get b
  | [], s, b, _ => rfl
  | B :: l, s, b, h => by simp only [St.news]; rw [St.news_old l (s.new B) b (by simp; omega), St.get_new, if_neg (by omega)]
theorem St.news_new : ∀ (l : List Blk) (s : St) (i : Nat) (B : Blk), l[i]? = some B → (s.news l).get (s.next + i) = some B
  | [], s, i, B, h => by simp at h
  | A :: l, s, i, B, h => by
    simp only [St.news]
    cases i with
    | zero =>
      simp at h; subst h
      rw [Nat.add_zero, St.news_old l (s.new A) s.next (by simp), St.get_new, if_pos rfl]
    | succ i =>
      have := St.news_new l (s.new A) i B (by simpa using h)
      rwa [St.next_new, show s.next + 1 + i = s.next + (i + 1) by omega] at this
theorem St.news_fresh : ∀ (l : List Blk) (s : St), (∀ b, s.next ≤ b → s.get b = none) → ∀ b, (s.news l).next ≤ b → (s.news l).get b = none
  | [], s, h, b, hb => h b hb
  | B :: l, s, h, b, hb => by
    simp only [St.news] at hb ⊢
    refine St.news_fresh l (s.new B) (fun b hb => ?_) b hb
    simp at hb
    rw [St.get_new, if_neg (by omega)]; exact h b (by omega)

/-- the place of a block among those that stay -/
def renAt (n : Nat) (L : List Nat) (d : Nat) (b : Nat) : Option Nat :=
  match L with
  | [] => none
  | c :: r => if Nat.beq c b then some (n + d) else renAt n r (d + 1) b
theorem renAt_spec {n : Nat} : ∀ {L : List Nat} {d b c : Nat}, renAt n L d b = some c → ∃ i, L[i]? = some b ∧ c = n + (d + i)
  | [], _, _, _, h => by simp [renAt] at h
  | x :: r, d, b, c, h => by
    simp only [renAt] at h
    split at h
    · rename_i e; cases h; have := Nat.eq_of_beq_eq_true e; subst this; exact ⟨0, by simp, rfl⟩
    · obtain ⟨i, h1, h2⟩ := renAt_spec h; exact ⟨i + 1, by simpa using h1, by omega⟩
def renOut (ρ : Ren) (g1 : Nat) (n : Nat) (L : List Nat) : Ren := fun b => if Nat.blt b g1 then ρ b else renAt n L 0 b
/-- the blocks that stay, renamed -/
def outB (ρ : Ren) (t : St) : List Nat → Option (List Blk)
  | [] => some []
  | b :: r => match t.get b with
    | some ⟨true, k⟩ => match k.ren ρ, outB ρ t r with
      | some k', some l => some (⟨true, k'⟩ :: l)
      | _, _ => none
    | _ => none
theorem outB_get {ρ : Ren} {t : St} : ∀ {L : List Nat} {Bs : List Blk}, outB ρ t L = some Bs → L.length = Bs.length ∧ ∀ (i b : Nat), L[i]? = some b → ∃ k k', t.get b = some ⟨true, k⟩ ∧ k.ren ρ = some k' ∧ Bs[i]? = some ⟨true, k'⟩
  | [], _, e => by cases e; exact ⟨rfl, fun i b h => by simp at h⟩
  | c :: r, _, e => by
    simp only [outB] at e
    split at e
    · rename_i k hk
      split at e
      · rename_i k' l h1 h2
        cases e
        obtain ⟨g1, g2⟩ := outB_get h2
        refine ⟨by simp [g1], fun i b hi => ?_⟩
        cases i with
        | zero => simp at hi; subst hi; exact ⟨k, k', hk, h1, by simp⟩
        | succ i => simpa using g2 i b (by simpa using hi)
      · cases e
    · cases e

section
variable {P : Program} {T : Tys}

/-- a memory that holds, under other numbers, all that a smaller one holds -/
structure Holds (g : St) (ρ : Ren) (s : St) : Prop where
  ro : ∀ b B, g.get b = some B → B.own = false
  fresh : ∀ b, g.next ≤ b → g.get b = none
  gl : g.gl = s.gl
  id : ∀ i, i < g.gl → ρ i = some i
  dom : ∀ b c, ρ b = some c → b < g.next ∧ c < s.next
  blk : ∀ b B c, g.get b = some B → ρ b = some c → ∃ k' o, B.k.ren ρ = some k' ∧ s.get c = some ⟨o, k'⟩

theorem AC.ship {f : FuncId} {args args' : List TV} {g g1 s : St} {ρ : Ren} {x1 x' : TV} {L : List Nat} {Bs : List Blk}
    (h : AC P f args g (fun x t => x = x1 ∧ t = g1)) (hh : Holds g ρ s) (ha : renT ρ args = some args')
    (hL : ∀ b ∈ L, g.next ≤ b) (hnd : L.Nodup) (hx : x1.ren (renOut ρ g.next s.next L) = some x') (hB : outB (renOut ρ g.next s.next L) g1 L = some Bs) :
    AC P f args' s (fun x t => x = x' ∧ t = s.news Bs) := by
  refine ⟨h.1, fun base μ w vs hr hv => ?_⟩
  let μ0 : Mu := fun b => (ρ b).bind μ
  have hback : RenBack ρ μ0 μ := fun b c hc m hm => by simp only [μ0, hc, Option.bind_some]; exact hm
  have R0 : Rel w.heap.size μ0 g w.heap := by
    refine ⟨fun b m hm => ?_, fun b B m hb hm => ?_, fun b B m hb ho hm => ?_, hh.fresh, Nat.le_refl _, fun i hi => ?_⟩
    · simp only [μ0] at hm
      cases hc : ρ b with
      | none => rw [hc] at hm; cases hm
      | some c => rw [hc] at hm; exact ⟨(hh.dom b c hc).1, (hr.dom c m hm).2⟩
    · simp only [μ0] at hm
      cases hc : ρ b with
      | none => rw [hc] at hm; cases hm
      | some c =>
        rw [hc] at hm
        obtain ⟨k', o, h1, h2⟩ := hh.blk b B c hb hc
        have := hr.blk c _ m h2 hm
        rw [hh.ro b B hb]
        exact BRel.ren_back hback h1 this
    · rw [hh.ro b B hb] at ho; cases ho
    · obtain ⟨c, hc⟩ := hr.glob i (by rw [← hh.gl]; exact hi)
      exact ⟨c, by simp only [μ0, hh.id i hi, Option.bind_some]; exact hc⟩
  refine (h.2 w.heap.size μ0 w vs R0 (renT_back hback ha hv)).mono ?_
  rintro e w' ⟨v, x, s', μ', he, hxv, ⟨hxe, hse⟩, hr', hg'⟩
  rw [hxe] at hxv; rw [hse] at hr' hg'; clear hxe hse
  obtain ⟨hBl, hBg⟩ := outB_get hB
  let μ2 : Mu := fun c => if c < s.next then μ c else (L[c - s.next]?).bind μ'
  have hle : μ.le μ2 := fun b m hm => by
    have := (hr.dom b m hm).1
    simp only [μ2]; rw [if_pos this]; exact hm
  have hok : RenOk (renOut ρ g.next s.next L) μ' μ2 := by
    intro b c hc m hm
    simp only [renOut] at hc
    cases hlt : Nat.blt b g.next with
    | true =>
      rw [hlt] at hc
      simp only [if_true] at hc
      obtain ⟨d1, d2⟩ := hh.dom b c hc
      simp only [μ2]; rw [if_pos d2]
      cases hm0 : μ0 b with
      | none => have := (hg'.pend b d1 hm0).1; rw [this] at hm; cases hm
      | some m0 =>
        have h1 := hg'.mu b m0 hm0
        rw [hm] at h1; cases h1
        simp only [μ0, hc, Option.bind_some] at hm0; exact hm0
    | false =>
      rw [hlt] at hc
      simp only [Bool.false_eq_true, if_false] at hc
      obtain ⟨i, hi, rfl⟩ := renAt_spec hc
      simp only [μ2]
      rw [if_neg (by omega), show s.next + (0 + i) - s.next = i by omega, hi, Option.bind_some]; exact hm
  have hbl := hg'.below
  have hnew : ∀ c m, ¬ c < s.next → μ2 c = some m → ∃ i b k k', c = s.next + i ∧ L[i]? = some b ∧ μ' b = some m ∧ g1.get b = some ⟨true, k⟩ ∧ k.ren (renOut ρ g.next s.next L) = some k' ∧ Bs[i]? = some ⟨true, k'⟩ := by
    intro c m hc hm
    simp only [μ2] at hm; rw [if_neg hc] at hm
    cases hi : L[c - s.next]? with
    | none => rw [hi] at hm; cases hm
    | some b =>
      rw [hi] at hm
      obtain ⟨k, k', h1, h2, h3⟩ := hBg _ _ hi
      exact ⟨c - s.next, b, k, k', by omega, hi, hm, h1, h2, h3⟩
  have hold : ∀ c m, c < s.next → μ2 c = some m → μ c = some m := by
    intro c m hc hm
    simp only [μ2] at hm; rw [if_pos hc] at hm; exact hm
  have hgl : s.gl ≤ s.next := by
    cases hz : s.gl with
    | zero => omega
    | succ n => obtain ⟨c, hc⟩ := hr.glob n (by omega); have := (hr.dom n _ hc).1; omega
  refine ⟨v, x', s.news Bs, μ2, he, TV.ren_fwd hok hx hxv, ⟨rfl, rfl⟩, ⟨?_, ?_, ?_, St.news_fresh Bs s hr.fresh, Nat.le_trans hr.base hbl.size, ?_⟩, ⟨hle, hbl.mono hr.base, ?_, ?_, St.news_gl Bs s⟩⟩
  · intro c m hm
    rw [St.news_next]
    by_cases hc : c < s.next
    · have := (hr.dom c m (hold c m hc hm)).2
      exact ⟨by omega, Nat.lt_of_lt_of_le this hbl.size⟩
    · obtain ⟨i, b, k, k', rfl, h1, h2, h3, h4, h5⟩ := hnew c m hc hm
      have := (List.getElem?_eq_some_iff.1 h5).1
      exact ⟨by omega, (hr'.dom b m h2).2⟩
  · intro c B m hb hm
    by_cases hc : c < s.next
    · rw [St.news_old Bs s c hc] at hb
      have h1 := hold c m hc hm
      exact BRel.mono hle (hbl.block _ (hr.dom c m h1).2) (hr.blk c B m hb h1)
    · obtain ⟨i, b, k, k', rfl, h1, h2, h3, h4, h5⟩ := hnew c m hc hm
      rw [St.news_new Bs s i _ h5] at hb
      cases hb
      exact BRel.ren_fwd hok h4 (hr'.blk b _ m h3 h2)
  · intro c B m hb ho hm
    by_cases hc : c < s.next
    · rw [St.news_old Bs s c hc] at hb
      have h1 := hold c m hc hm
      obtain ⟨p1, p2⟩ := hr.own c B m hb ho h1
      refine ⟨p1, fun b2 m2 hne hs hm2 => ?_⟩
      by_cases hc2 : b2 < s.next
      · rw [St.news_old Bs s b2 hc2] at hs
        exact p2 b2 m2 hne hs (hold b2 m2 hc2 hm2)
      · obtain ⟨i, b, k, k', rfl, h1', h2, h3, h4, h5⟩ := hnew b2 m2 hc2 hm2
        have q1 := (hr'.own b _ m2 h3 rfl h2).1
        have q2 := (hr.dom c m h1).2
        omega
    · obtain ⟨i, b, k, k', rfl, h1, h2, h3, h4, h5⟩ := hnew c m hc hm
      obtain ⟨p1, p2⟩ := hr'.own b _ m h3 rfl h2
      refine ⟨Nat.le_trans hr.base p1, fun b2 m2 hne hs hm2 => ?_⟩
      by_cases hc2 : b2 < s.next
      · have q2 := (hr.dom b2 m2 (hold b2 m2 hc2 hm2)).2
        omega
      · obtain ⟨i2, b', k2, k2', rfl, h1', h2', h3', h4', h5'⟩ := hnew b2 m2 hc2 hm2
        refine p2 b' m2 ?_ (by rw [h3']; rfl) h2'
        rintro rfl
        have l1 := List.getElem?_eq_some_iff.1 h1
        have l2 := List.getElem?_eq_some_iff.1 h1'
        have := (List.getElem_inj (h₀ := l2.1) (h₁ := l1.1) hnd).1 (l2.2.trans l1.2.symm)
        omega
  · intro i hi
    rw [St.news_gl] at hi
    obtain ⟨c, hc⟩ := hr.glob i hi
    exact ⟨c, hle _ _ hc⟩
  · rw [St.news_next]; omega
  · intro b hb hm
    exact ⟨by simp only [μ2]; rw [if_pos hb]; exact hm, St.news_old Bs s b hb⟩
end
end Go.Proofs.YtijkkgloennglaaGreatDoor.Ab
