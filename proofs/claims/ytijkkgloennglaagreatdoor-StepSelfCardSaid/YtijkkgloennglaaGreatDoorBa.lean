/-
  Lists of texts, and whether two are the same. No condition.
-/
import Derived.Test.YtijkkgloennglaaGreatDoorNx
import Derived.Test.YtijkkgloennglaaGreatDoorFw24
set_option linter.all false
set_option maxRecDepth 100000
namespace Go.Proofs.YtijkkgloennglaaGreatDoor.Ab
open Go Go.RowKit
attribute [local simp] WLd contW_eq WL_nil guardOk callOf stepOp clsOf pureA readA loudA allocA opd opds Env.get Env.put ofConst binA intBin unA strBin partsOf fillA zeros TV.cells TyI.wrap TyI.agg bnd ofPart ptrVals

theorem at22 : tys.at 22 = some ⟨.slice 9, 1, 24, [.nils]⟩ := rfl
theorem kd22 : tys.kd 22 = some (.slice 9) := rfl
theorem at24 : tys.at 24 = some ⟨.struct [(0, 4), (1, 22), (2, 22)], 3, 56, [.bool false, .nils, .nils]⟩ := rfl
theorem kd24 : tys.kd 24 = some (.struct [(0, 4), (1, 22), (2, 22)]) := rfl
theorem kd9 : tys.kd 9 = some .str := rfl
/-- a slice's texts -/
def Strs (s : St) (x : AV) (l : List (List UInt8)) : Prop :=
  ((x = .nils ∨ x = .emp) ∧ l = []) ∨ ∃ b off cap cs, x = .sl b off l.length 1 cap ∧ s.cells b = some cs ∧ off + l.length ≤ cs.length ∧ ∀ (i : Nat) (z : List UInt8), l[i]? = some z → cs[off + i]? = some (.str z)
theorem Strs.len {s : St} {x : AV} {l : List (List UInt8)} (h : Strs s x l) : slen x = some l.length := by
  rcases h with ⟨rfl | rfl, rfl⟩ | ⟨b, off, cap, cs, rfl, _⟩
  · rfl
  · rfl
  · rfl
theorem Strs.at {s : St} {x : AV} {l : List (List UInt8)} (h : Strs s x l) {i : Nat} (hi : i < l.length) : ∃ b off, pureA tys s.gl (.indexAddr 22 (.tmp 0) (.tmp 1)) [(0, .v x), (1, .v (.int .i64 i))] = some (.v (.ptr b off)) ∧ readA tys (.load 9 (.tmp 0)) [(0, .v (.ptr b off))] s = some (.v (.str l[i])) := by
  rcases h with ⟨h1, rfl⟩ | ⟨b, off, cap, cs, rfl, h1, h2, h3⟩
  · simp at hi
  · have h4 := h3 i l[i] (by simp)
    have h5 : (cs.drop (off + i)).take 1 = [.str l[i]] := by
      have hlt := (List.getElem?_eq_some_iff.1 h4).1
      rw [List.drop_eq_getElem_cons hlt]
      rw [List.getElem?_eq_getElem hlt] at h4
      simp [Option.some.inj h4]
    refine ⟨b, off + i, by simp [kd22, at9, hi], ?_⟩
    simp [at9, h1, show off + i + 1 ≤ cs.length by omega, h5]
theorem Strs.keep {s s' : St} {x : AV} {l : List (List UInt8)} (h : Strs s x l) (hf : ∀ b, s.next ≤ b → s.get b = none) (hk : ∀ b, b < s.next → s'.get b = s.get b) : Strs s' x l := by
  rcases h with h | ⟨b, off, cap, cs, h1, h2, h3⟩
  · exact .inl h
  · refine .inr ⟨b, off, cap, cs, h1, ?_, h3⟩
    have : b < s.next := by
      apply Decidable.byContradiction; intro hn
      have := hf b (by omega)
      unfold St.cells at h2; rw [this] at h2; cases h2
    unfold St.cells at h2 ⊢; rw [hk b this]; exact h2

theorem same27 {s : St} {x y : AV} {l q : List (List UInt8)} (hx : Strs s x l) (hy : Strs s y q) (hs : l.length ≤ 100000) : AC Tryz.prog 27 [.v x, .v y] s (fun r s' => r = .v (.bool (decide (l = q))) ∧ s' = s) := by
  refine ac_of_wc tys_ok hm fnis27 (by simp [fr27]) ?_
  simp only [fr27, cc27]
  have e1 := fun s => lenA_sl (T := tys) (s := s) (t := 22) (e := 9) (x := x) rfl hx.len
  have e2 := fun s => lenA_sl (T := tys) (s := s) (t := 22) (e := 9) (x := y) rfl hy.len
  rw [wc_sr]; simp [argEnv]
  rw [wc_assoc, wc_sr]; simp [e1, e2]
  by_cases hl : l.length = q.length
  · rw [wc_scf (by simp; omega), wc_ss, wc_assoc, wc_sr]; simp
    rw [wc_sb]
    refine wc_loopI (fun m e t => ∃ i, i ≤ l.length ∧ m = l.length - i ∧ e = [(0, .v x), (1, .v y), (5, .v (.int .i64 i))] ∧ t = s ∧ ∀ j, j < i → l[j]? = q[j]?) l.length ⟨0, by omega, by omega, by simp [Env.keep], rfl, fun j h => by omega⟩ ?_
    rintro m e t ⟨i, hi, rfl, rfl, rfl, hj⟩
    rw [wc_assoc, wc_sr]; simp [e1]
    by_cases hlt : i < l.length
    · obtain ⟨b1, o1, h1, h2⟩ := hx.at hlt
      obtain ⟨b2, o2, h3, h4⟩ := hy.at (show i < q.length by omega)
      simp at h1 h2 h3 h4
      rw [wc_sct (by simp [hlt]), wc_ss, wc_sb, wc_sr]; simp [h1, h2, h3, h4]
      by_cases he : l[i] = q[i]'(by omega)
      · rw [wc_cf (by simp [he]), WC_skip, blk_normal, WC_reg]; simp [Env.keep]
        refine ⟨l.length - (i + 1), by omega, i + 1, by omega, rfl, ?_, fun j hj' => ?_⟩
        · rw [wrap_small (by omega) (by omega)]; simp
        · by_cases e : j = i
          · subst e; rw [List.getElem?_eq_getElem hlt, List.getElem?_eq_getElem (by omega), he]
          · exact hj j (by omega)
      · rw [wc_ct (by simp [he]), wc_sr]; simp
        rw [WC_ret]
        have hne : l ≠ q := fun e => he (by subst e; rfl)
        simp [BlkK, Ends, resA, resAll, resOne, hne]
    · rw [wc_scf (by simp [hlt]), wc_sexit]
      show BlkK _ _ 0 _ _ (.exit 0) _ _
      rw [blk_exit, wc_sr]; simp
      rw [WC_ret]
      have heq : l = q := by
        apply List.ext_getElem?
        intro j
        by_cases h : j < i
        · exact hj j h
        · rw [List.getElem?_eq_none (by omega), List.getElem?_eq_none (by omega)]
      simp [Ends, resA, resAll, resOne, heq]
  · have hne : l ≠ q := fun e => hl (by rw [e])
    rw [wc_sct (by simp; omega), wc_assoc, wc_sr]; simp
    rw [wc_sret]
    simp [Ends, resA, resAll, resOne, hne]
theorem same28 {s : St} {x y : AV} {l q : List (List UInt8)} (hx : Strs s x l) (hy : Strs s y q) (hs : l.length ≤ 100000) : AC Tryz.prog 28 [.v x, .v y] s (fun r s' => r = .v (.bool (decide (l = q))) ∧ s' = s) := by
  refine ac_of_wc tys_ok hm fnis28 (by simp [fr28]) ?_
  simp only [fr28, cc28]
  have e1 := fun s => lenA_sl (T := tys) (s := s) (t := 22) (e := 9) (x := x) rfl hx.len
  have e2 := fun s => lenA_sl (T := tys) (s := s) (t := 22) (e := 9) (x := y) rfl hy.len
  rw [wc_sr]; simp [argEnv]
  rw [wc_assoc, wc_sr]; simp [e1, e2]
  by_cases hl : l.length = q.length
  · rw [wc_scf (by simp; omega), wc_ss, wc_assoc, wc_sr]; simp [e1]
    rw [wc_sb]
    refine wc_loopI (fun m e t => ∃ i, i ≤ l.length ∧ m = l.length - i ∧ e = [(0, .v x), (1, .v y), (12, .v (.int .i64 l.length)), (13, .v (.int .i64 i))] ∧ t = s ∧ ∀ j, j < i → l[j]? = q[j]?) l.length ⟨0, by omega, by omega, by simp [Env.keep], rfl, fun j h => by omega⟩ ?_
    rintro m e t ⟨i, hi, rfl, rfl, rfl, hj⟩
    rw [wc_sr]; simp
    by_cases hlt : i < l.length
    · obtain ⟨b1, o1, h1, h2⟩ := hx.at hlt
      obtain ⟨b2, o2, h3, h4⟩ := hy.at (show i < q.length by omega)
      simp at h1 h2 h3 h4
      rw [wc_sct (by simp [hlt]), wc_ss, wc_sb, wc_sr]; simp
      rw [wc_sr]; simp [h1, h2, h3, h4]
      by_cases he : l[i] = q[i]'(by omega)
      · rw [wc_cf (by simp [he]), WC_skip, blk_normal, WC_reg]; simp [Env.keep]
        refine ⟨l.length - (i + 1), by omega, i + 1, by omega, rfl, ?_, fun j hj' => ?_⟩
        · rw [wrap_small (by omega) (by omega)]; simp
        · by_cases e : j = i
          · subst e; rw [List.getElem?_eq_getElem hlt, List.getElem?_eq_getElem (by omega), he]
          · exact hj j (by omega)
      · rw [wc_ct (by simp [he]), wc_sr]; simp
        rw [WC_ret]
        have hne : l ≠ q := fun e => he (by subst e; rfl)
        simp [BlkK, Ends, resA, resAll, resOne, hne]
    · rw [wc_scf (by simp [hlt]), wc_sexit]
      show BlkK _ _ 0 _ _ (.exit 0) _ _
      rw [blk_exit, wc_sr]; simp
      rw [WC_ret]
      have heq : l = q := by
        apply List.ext_getElem?
        intro j
        by_cases h : j < i
        · exact hj j h
        · rw [List.getElem?_eq_none (by omega), List.getElem?_eq_none (by omega)]
      simp [Ends, resA, resAll, resOne, heq]
  · have hne : l ≠ q := fun e => hl (by rw [e])
    rw [wc_sct (by simp; omega), wc_assoc, wc_sr]; simp
    rw [wc_sret]
    simp [Ends, resA, resAll, resOne, hne]

/-- memory that holds all that there was -/
structure Keeps (s s' : St) : Prop where
  gl : s'.gl = s.gl
  old : ∀ b, b < s.next → s'.get b = s.get b
  next : s.next ≤ s'.next
theorem Keeps.refl (s : St) : Keeps s s := ⟨rfl, fun _ _ => rfl, Nat.le_refl _⟩
theorem Keeps.trans {a b c : St} (h : Keeps a b) (k : Keeps b c) : Keeps a c := ⟨k.gl.trans h.gl, fun x hx => (k.old x (Nat.lt_of_lt_of_le hx h.next)).trans (h.old x hx), Nat.le_trans h.next k.next⟩
theorem Keeps.new (s : St) (B : Blk) : Keeps s (s.new B) := ⟨rfl, fun b hb => by rw [St.get_new, if_neg (by omega)], by simp⟩
def Fresh (s : St) : Prop := ∀ b, s.next ≤ b → s.get b = none
theorem Fresh.new {s : St} (h : Fresh s) (B : Blk) : Fresh (s.new B) := fun b hb => by simp at hb; rw [St.get_new, if_neg (by omega)]; exact h b (by omega)
theorem Strs.kept {s s' : St} {x : AV} {l : List (List UInt8)} (h : Strs s x l) (hf : Fresh s) (hk : Keeps s s') : Strs s' x l := h.keep hf hk.old

theorem same11 {s : St} (hf : Fresh s) {c d : Bool} {x1 x2 y1 y2 : AV} {l1 l2 q1 q2 : List (List UInt8)} (h1 : Strs s x1 l1) (h2 : Strs s x2 l2) (h3 : Strs s y1 q1) (h4 : Strs s y2 q2) (b1 : l1.length ≤ 100000) (b2 : l2.length ≤ 100000) :
    AC Tryz.prog 11 [.agg [.bool c, x1, x2], .agg [.bool d, y1, y2]] s (fun r s' => r = .v (.bool ((c == d) && decide (l1 = q1) && decide (l2 = q2))) ∧ Keeps s s') := by
  refine ac_of_wc tys_ok hm fnis11 (by simp -implicitDefEqProofs [fr11]) ?_
  simp only [fr11, cc11]
  have hk : Keeps s ((s.new ⟨true, .cells [.bool c, x1, x2]⟩).new ⟨true, .cells [.bool d, y1, y2]⟩) := (Keeps.new _ _).trans (Keeps.new _ _)
  have g1 := h1.kept hf hk
  have g2 := h2.kept hf hk
  have g3 := h3.kept hf hk
  have g4 := h4.kept hf hk
  rw [wc_sr]; simp -implicitDefEqProofs [argEnv]
  rw [wc_sr]; simp -implicitDefEqProofs [kd24, at22, at4, cells_new_eq, binA, nilEq]
  by_cases hcd : c = d
  · subst hcd
    simp -implicitDefEqProofs [kd24, at22, at4, cells_new_eq, binA, nilEq]
    refine ac_det (same27 g1 g3 b1) ?_
    by_cases hl : l1 = q1
    · simp -implicitDefEqProofs [hl, kd24, at22, at4, cells_new_eq, binA, nilEq]
      refine ac_det (same27 g2 g4 b2) ?_
      try simp -implicitDefEqProofs
      rw [WC_ret]
      simp -implicitDefEqProofs [Ends, resA, resAll, resOne]
      exact hk
    · simp -implicitDefEqProofs [hl]
      rw [WC_ret]
      simp -implicitDefEqProofs [Ends, resA, resAll, resOne]
      exact hk
  · have hb : (c == d) = false := by simp -implicitDefEqProofs [hcd]
    simp -implicitDefEqProofs [hb]
    rw [WC_ret]
    simp -implicitDefEqProofs [Ends, resA, resAll, resOne]
    exact hk
theorem same12 {s : St} (hf : Fresh s) {c d : Bool} {x1 x2 y1 y2 : AV} {l1 l2 q1 q2 : List (List UInt8)} (h1 : Strs s x1 l1) (h2 : Strs s x2 l2) (h3 : Strs s y1 q1) (h4 : Strs s y2 q2) (b1 : l1.length ≤ 100000) (b2 : l2.length ≤ 100000) :
    AC Tryz.prog 12 [.agg [.bool c, x1, x2], .agg [.bool d, y1, y2]] s (fun r s' => r = .v (.bool ((c == d) && decide (l1 = q1) && decide (l2 = q2))) ∧ Keeps s s') := by
  refine ac_of_wc tys_ok hm fnis12 (by simp -implicitDefEqProofs [fr12]) ?_
  simp only [fr12, cc12]
  have hk : Keeps s ((s.new ⟨true, .cells [.bool c, x1, x2]⟩).new ⟨true, .cells [.bool d, y1, y2]⟩) := (Keeps.new _ _).trans (Keeps.new _ _)
  have g1 := h1.kept hf hk
  have g2 := h2.kept hf hk
  have g3 := h3.kept hf hk
  have g4 := h4.kept hf hk
  rw [wc_sr]; simp -implicitDefEqProofs [argEnv]
  rw [wc_sr]; simp -implicitDefEqProofs [kd24, at22, at4, cells_new_eq, binA, nilEq]
  by_cases hcd : c = d
  · subst hcd
    simp -implicitDefEqProofs [kd24, at22, at4, cells_new_eq, binA, nilEq]
    refine ac_det (same28 g1 g3 b1) ?_
    by_cases hl : l1 = q1
    · simp -implicitDefEqProofs [hl, kd24, at22, at4, cells_new_eq, binA, nilEq]
      refine ac_det (same28 g2 g4 b2) ?_
      try simp -implicitDefEqProofs
      rw [WC_ret]
      simp -implicitDefEqProofs [Ends, resA, resAll, resOne]
      exact hk
    · simp -implicitDefEqProofs [hl]
      rw [WC_ret]
      simp -implicitDefEqProofs [Ends, resA, resAll, resOne]
      exact hk
  · have hb : (c == d) = false := by simp -implicitDefEqProofs [hcd]
    simp -implicitDefEqProofs [hb]
    rw [WC_ret]
    simp -implicitDefEqProofs [Ends, resA, resAll, resOne]
    exact hk
theorem one_of {a : List AV} (h : a.length = 1) : ∃ x, a = [x] := by
  match a, h with
  | [x], _ => exact ⟨x, rfl⟩
/-- texts that came in -/
theorem strs_of {s : St} {a : AV} {n : Nat} (h : ShA tys s (n + 2) 22 [a]) : ∃ l, Strs s a l := by
  unfold ShA at h
  rw [kd22] at h
  simp only at h
  rcases h with h | h | ⟨b, len, cap, cs, j, hj, h, hb, hlt, hlc, hcm, hcl, hel⟩
  · cases h; exact ⟨[], .inl ⟨.inl rfl, rfl⟩⟩
  · cases h; exact ⟨[], .inl ⟨.inr rfl, rfl⟩⟩
  · cases h
    obtain rfl : j = ⟨.str, 1, 16, [.str []]⟩ := Option.some.inj (hj.symm.trans at9)
    simp only [Nat.mul_one] at hel hcl
    have hel' : ∀ i, i < len → ∃ z : List UInt8, cs[i]? = some (AV.str z) := by
      intro i hi
      have h := hel i (by omega)
      unfold ShA at h
      rw [kd9] at h
      obtain ⟨z, h, _⟩ := h
      refine ⟨z, ?_⟩
      have := congrArg (fun l => l[0]?) h
      simpa using this
    have hch : ∃ l : List (List UInt8), l.length = len ∧ ∀ (i : Nat) (z : List UInt8), l[i]? = some z → cs[i]? = some (AV.str z) := by
      clear hel hj hlc
      induction len with
      | zero => exact ⟨[], rfl, fun i p h => by simp at h⟩
      | succ m ih =>
        obtain ⟨l, h1, h2⟩ := ih (fun i hi => hel' i (by omega))
        obtain ⟨p, hp⟩ := hel' m (by omega)
        refine ⟨l ++ [p], by simp [h1], fun i q hq => ?_⟩
        by_cases hi : i < m
        · rw [List.getElem?_append_left (by omega)] at hq; exact h2 i q hq
        · have hi' : i = m := by
            have := (List.getElem?_eq_some_iff.1 hq).1
            simp at this; omega
          subst hi'
          rw [List.getElem?_append_right (by omega), h1, Nat.sub_self] at hq
          simp at hq; subst hq; exact hp
    obtain ⟨l, rfl, h2⟩ := hch
    refine ⟨l, .inr ⟨b, 0, some cap, cs, rfl, ?_, ?_, fun i z hz => by rw [Nat.zero_add]; exact h2 i z hz⟩⟩
    · unfold St.cells; rw [hb]
    · omega
end Go.Proofs.YtijkkgloennglaaGreatDoor.Ab
