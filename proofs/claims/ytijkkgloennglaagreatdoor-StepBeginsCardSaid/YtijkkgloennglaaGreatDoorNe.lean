/-
  The law of the instructions behind one answers true, where the anchor does. No condition.
-/
import Derived.Test.YtijkkgloennglaaGreatDoorNd
set_option linter.all false
set_option maxRecDepth 100000
namespace Go.Proofs.YtijkkgloennglaaGreatDoor.Ab
open Go Go.RowKit
attribute [local simp] WL_cons WL_nil guardOk callOf stepOp clsOf pureA readA loudA allocA opd opds Env.get Env.put ofConst binA intBin unA strBin partsOf fillA zeros TV.cells TyI.wrap TyI.agg bnd ofPart ptrVals

theorem at4 : tys.at 4 = some ⟨.bool, 1, 1, [.bool false]⟩ := rfl
theorem AC.fresh {P : Program} {f : FuncId} {args : List TV} {s : St} {R : TV → St → Prop} (h : AC P f args s R) : AC P f args s (fun x s' => R x s' ∧ ∀ b, s'.next ≤ b → s'.get b = none) :=
  ⟨h.1, fun base μ w vs hr hv => (h.2 base μ w vs hr hv).mono fun _ _ ⟨v, x, s', μ', e, h1, h2, h3, h4⟩ => ⟨v, x, s', μ', e, h1, ⟨h2, h3.fresh⟩, h3, h4⟩⟩
theorem Ints.keep {s s' : St} {x : AV} {l : List Int} (h : Ints s x l) (hf : ∀ b, s.next ≤ b → s.get b = none) (hk : ∀ b, b < s.next → s'.get b = s.get b) : Ints s' x l := by
  rcases h with h | ⟨b, off, cap, cs, h1, h2, h3⟩
  · exact .inl h
  · refine .inr ⟨b, off, cap, cs, h1, ?_, h3⟩
    have : b < s.next := by
      apply Decidable.byContradiction; intro hn
      have := hf b (by omega)
      unfold St.cells at h2; rw [this] at h2; cases h2
    unfold St.cells at h2 ⊢; rw [hk b this]; exact h2
theorem nextS_len {l : List (List UInt8 × Int × List UInt8)} {z : Int} {c : Bool} {l2 : List Int} (hc : (nextS l z = if c then some l2 else none) ∧ (c = false → l2 = [])) : l2.length ≤ 2 := by
  cases c with
  | false => rw [hc.2 rfl]; simp -implicitDefEqProofs
  | true =>
    have h := hc.1
    simp only [if_true] at h
    unfold nextS at h
    repeat' (split at h)
    all_goals first | cases h; done | (cases h; simp -implicitDefEqProofs)
theorem law5 {s : St} {x : AV} {l : List (List UInt8 × Int × List UInt8)} {z : Int} (hl : Instrs s x l)
    (haw : ∀ s' : St, s'.gl = s.gl → (∀ b, b < s.next → s'.get b = s.get b) → s.next ≤ s'.next → AC Tryz.prog 7 [] s' (fun r t => r = .v (.bool true) ∧ t = s')) :
    AC Tryz.prog 5 [.v x, .v (.int .i64 z)] s (fun r _ => r = .v (.bool true)) := by
  refine ac_of_wc tys_ok hm fnis5 (by simp -implicitDefEqProofs [fr5]) ?_
  simp only [fr5, cc5]
  have hlen := fun s => lenA_sl (T := tys) (s := s) (t := 36) (e := 53) (x := x) rfl hl.len
  rw [wc_sr]; simp -implicitDefEqProofs [argEnv]
  rw [wc_assoc, wc_sr]; simp -implicitDefEqProofs [hlen]
  by_cases h3 : (300 : Int) < l.length
  · rw [wc_sct (by simp -implicitDefEqProofs [h3]), wc_assoc, wc_sr]; simp -implicitDefEqProofs
    refine ac_det (haw s rfl (fun _ _ => rfl) (Nat.le_refl _)) ?_
    try simp -implicitDefEqProofs
    rw [wc_sret]
    simp -implicitDefEqProofs [Ends, resA, resAll, resOne]
  · rw [wc_scf (by simp -implicitDefEqProofs [h3]), wc_ss, wc_sr]; simp -implicitDefEqProofs
    refine (next15 (z := z) hl (by omega)).fresh.mono ?_
    intro r1 s1 hA1
    obtain ⟨⟨g1, k1, n1, hA1⟩, f1⟩ := hA1
    have hl1 : Instrs s1 x l := by
      rcases hl with h | ⟨b, cap, cs, h1, h2, h3, h4⟩
      · exact .inl h
      · refine .inr ⟨b, cap, cs, h1, ?_, by omega, h4⟩
        unfold St.cells at h2 ⊢; rw [k1 b h3]; exact h2
    obtain ⟨a1, c, l2, rfl, hi1, hc⟩ : ∃ a c l2, r1 = .tup [(false, [a]), (false, [.bool c])] ∧ Ints s1 a l2 ∧ (nextS l z = if c then some l2 else none) ∧ (c = false → l2 = []) := by
      split at hA1
      · rename_i hn; obtain ⟨x1, h, hx⟩ := hA1; exact ⟨x1, false, [], h, .inl ⟨hx, rfl⟩, by rw [hn]; rfl, fun _ => rfl⟩
      · rename_i l2 hn; obtain ⟨x1, h, hx⟩ := hA1; exact ⟨x1, true, l2, h, hx, by rw [hn]; rfl, fun h => by cases h⟩
    simp -implicitDefEqProofs
    rw [wc_sr]; simp -implicitDefEqProofs
    refine (next16 (z := z) hl1 (by omega)).mono ?_
    intro r2 s2 hA2
    obtain ⟨g2, k2, n2, hA2⟩ := hA2
    obtain ⟨a2, rfl, hi2⟩ : ∃ a, r2 = .tup [(false, [a]), (false, [.bool c])] ∧ Ints s2 a l2 := by
      rw [hc.1] at hA2
      cases c with
      | true => obtain ⟨x2, h, hx⟩ := hA2; exact ⟨x2, h, hx⟩
      | false => obtain ⟨x2, h, hx⟩ := hA2; exact ⟨x2, h, .inl ⟨hx, hc.2 rfl⟩⟩
    have hi1 := hi1.keep f1 k2
    have e1 := fun s => lenA_sl (T := tys) (s := s) (t := 42) (e := 3) (x := a1) rfl hi1.len
    have e2 := fun s => lenA_sl (T := tys) (s := s) (t := 42) (e := 3) (x := a2) rfl hi2.len
    clear hA2 hA1 hl1
    simp -implicitDefEqProofs
    rw [wc_assoc, wc_sr]; simp -implicitDefEqProofs
    refine ac_det (haw s2 (g2.trans g1) (fun b hb => (k2 b (by omega)).trans (k1 b hb)) (by omega)) ?_
    simp -implicitDefEqProofs [e1, e2, binA, at4, nilEq]
    rw [wc_scf (by simp -implicitDefEqProofs), wc_ss, wc_assoc, wc_sr]; simp -implicitDefEqProofs
    rw [wc_sb]
    refine wc_loopI (fun m e t => ∃ i, i ≤ l2.length ∧ m = l2.length - i ∧ e = [(5, .v a1), (7, .v a2), (9, .v (.int .i64 i))] ∧ t = s2) l2.length ⟨0, by omega, by omega, by simp -implicitDefEqProofs [Env.keep], rfl⟩ ?_
    rintro m e t ⟨i, hi, rfl, rfl, rfl⟩
    rw [wc_assoc, wc_sr]; simp -implicitDefEqProofs [e2]
    by_cases hlt : i < l2.length
    · obtain ⟨b1, o1, h1, h2⟩ := hi1.at hlt
      obtain ⟨b2, o2, h3, h4⟩ := hi2.at hlt
      simp at h1 h2 h3 h4
      rw [wc_sct (by simp -implicitDefEqProofs [hlt]), wc_ss, wc_sb, wc_sr]; simp -implicitDefEqProofs [h1, h2, h3, h4]
      rw [wc_cf (by simp -implicitDefEqProofs), WC_skip, blk_normal, WC_reg]; simp -implicitDefEqProofs [Env.keep]
      refine ⟨l2.length - (i + 1), by omega, i + 1, by omega, rfl, ?_⟩
      rw [wrap_small (by omega) (by have : l2.length ≤ 2 := nextS_len hc; omega)]; simp -implicitDefEqProofs
    · rw [wc_scf (by simp -implicitDefEqProofs [hlt]), wc_sexit]
      show BlkK _ _ 0 _ _ (.exit 0) _ _
      rw [blk_exit, wc_sr]; simp -implicitDefEqProofs
      rw [WC_ret]
      simp -implicitDefEqProofs [Ends, resA, resAll, resOne]
end Go.Proofs.YtijkkgloennglaaGreatDoor.Ab
