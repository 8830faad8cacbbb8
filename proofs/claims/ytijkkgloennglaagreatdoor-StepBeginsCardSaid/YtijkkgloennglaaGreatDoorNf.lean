/-
  The law of the instructions behind one, whatever comes in: true. No condition.
-/
import Derived.Test.YtijkkgloennglaaGreatDoorNe
import Derived.Test.YtijkkgloennglaaGreatDoorAg
set_option linter.all false
set_option maxRecDepth 100000
namespace Go.Proofs.YtijkkgloennglaaGreatDoor.Ab
open Go Go.RowKit

/-- the anchor, in any memory that holds the listed variables -/
theorem awake_in {s : St} (hgl : s.gl = 5) (hk : ∀ b B, g0.get b = some B → s.get b = some B) : AC Tryz.prog 7 [] s (fun r t => r = .v (.bool true) ∧ t = s) := by
  have h := ac7
  refine (AC.lift (P := Tryz.prog) (g := g0) (s := s) (Q := fun r => r = .v (.bool true)) h rfl (by rintro x rfl; rfl) (by rw [hgl]; rfl) (Nat.le_refl _) ?_ ?_ ?_)
  · intro b B hB
    exact ⟨small0.ro b B hB, hk b B hB⟩
  · intro b B hB
    obtain ⟨vs, hm, _⟩ := startMem_get gl07 b B hB
    simp only [gl07, List.mem_cons, Prod.mk.injEq, List.mem_nil_iff, or_false] at hm
    show b < 5
    rcases hm with ⟨rfl, _⟩ | ⟨rfl, _⟩ <;> decide
  · intro b B hB
    obtain ⟨vs, hm, rfl⟩ := startMem_get gl07 b B hB
    simp only [gl07, List.mem_cons, Prod.mk.injEq, List.mem_nil_iff, or_false] at hm
    refine ⟨vs, rfl, ?_⟩
    rcases hm with ⟨_, rfl⟩ | ⟨_, rfl⟩ <;> decide +kernel

/-- a list of instructions that came in -/
theorem instrs_of {s : St} {a : AV} {n : Nat} (h : ShA tys s (n + 2) 36 [a]) : ∃ l, Instrs s a l := by
  unfold ShA at h
  rw [show tys.kd 36 = some (.slice 53) from rfl] at h
  simp only at h
  rcases h with h | h | ⟨b, len, cap, cs, j, hj, h, hb, hlt, hlc, hcm, hcl, hel⟩
  · cases h; exact ⟨[], .inl ⟨rfl, rfl⟩⟩
  · cases h; exact ⟨[], .inl ⟨rfl, rfl⟩⟩
  · cases h
    obtain rfl : j = ⟨.struct [(0, 9), (1, 2), (2, 9)], 3, 40, [.str [], .int .i64 0, .str []]⟩ := Option.some.inj (hj.symm.trans at53)
    have hel' : ∀ i, i < len → ∃ p : List UInt8 × Int × List UInt8, (cs.drop (i * 3)).take 3 = [.str p.1, .int .i64 p.2.1, .str p.2.2] := by
      intro i hi
      have h := hel i (by omega)
      unfold ShA at h
      rw [kd53] at h
      simp only [ShF] at h
      obtain ⟨i1, a1, r1, e1, f1, g1, s1, i2, a2, r2, e2, f2, g2, s2, i3, a3, r3, e3, f3, g3, s3, rfl⟩ := h
      cases n with
      | zero => exact s1.elim
      | succ n =>
        unfold ShA at s1 s2 s3
        rw [show tys.kd 9 = some .str from rfl] at s1 s3
        rw [show tys.kd 2 = some (.int .i64) from rfl] at s2
        obtain ⟨x, rfl, _⟩ := s1
        obtain ⟨y, rfl, _⟩ := s2
        obtain ⟨z, rfl, _⟩ := s3
        exact ⟨(x, y, z), by rw [f1, f2, f3]; rfl⟩
    have hch : ∃ l : List (List UInt8 × Int × List UInt8), l.length = len ∧ ∀ i p, l[i]? = some p → (cs.drop (i * 3)).take 3 = [.str p.1, .int .i64 p.2.1, .str p.2.2] := by
      clear hel hj hlc
      induction len with
      | zero => exact ⟨[], rfl, fun i p h => by simp at h⟩
      | succ m ih =>
        obtain ⟨l, h1, h2⟩ := ih (fun i hi => hel' i (by omega))
        obtain ⟨p, hp⟩ := hel' m (by omega)
        refine ⟨l ++ [p], by simp [h1], fun i q hq => ?_⟩
        by_cases hi : i < m
        · rw [List.getElem?_append_left (by omega)] at hq; exact h2 i q hq
        · have hi' : i = m := by
            have := (List.getElem?_eq_some_iff.1 hq).1
            simp at this; omega
          subst hi'
          rw [List.getElem?_append_right (by omega), h1, Nat.sub_self] at hq
          simp at hq; subst hq; exact hp
    obtain ⟨l, rfl, h2⟩ := hch
    refine ⟨l, .inr ⟨b, some cap, cs, rfl, ?_, hlt, ?_, h2⟩⟩
    · unfold St.cells; rw [hb]
    · rw [hcl]; exact Nat.mul_le_mul_right 3 hlc

theorem law5_any {s : St} {xs : List TV} (_ : ∀ b, s.next ≤ b → s.get b = none) (hgl : s.gl = 5) (hn : 5 ≤ s.next) (hk : ∀ b B, g0.get b = some B → s.get b = some B) (hlt : ∀ b B, g0.get b = some B → b < 5) (hx : ArgsSh tys s 4 [36, 3] xs) : AC Tryz.prog 5 xs s (fun r _ => r = .v (.bool true)) := by
  cases xs with
  | nil => exact hx.elim
  | cons x xs =>
    cases xs with
    | nil => exact hx.2.elim
    | cons z xs =>
      cases xs with
      | cons y xs => exact hx.2.2.elim
      | nil =>
        obtain ⟨h1, h2, _⟩ := hx
        unfold ArgSh at h1 h2
        rw [show tys.at 36 = some ⟨.slice 53, 1, 24, [.nils]⟩ from rfl] at h1
        rw [show tys.at 3 = some ⟨.int .i64, 1, 8, [.int .i64 0]⟩ from rfl] at h2
        obtain ⟨a, rfl, h1⟩ := h1
        obtain ⟨c, rfl, h2⟩ := h2
        unfold ShA at h2
        rw [show tys.kd 3 = some (.int .i64) from rfl] at h2
        obtain ⟨z, h2, _⟩ := h2
        cases h2
        obtain ⟨l, hl⟩ := instrs_of (n := 2) h1
        refine law5 hl (fun s' h3 h4 h5 => awake_in (h3.trans hgl) (fun b B hB => ?_))
        rw [h4 b (by have := hlt b B hB; omega)]; exact hk b B hB
end Go.Proofs.YtijkkgloennglaaGreatDoor.Ab
