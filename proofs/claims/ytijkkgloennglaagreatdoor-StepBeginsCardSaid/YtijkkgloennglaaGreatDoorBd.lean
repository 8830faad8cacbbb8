/-
  The law of what is known at first answers true, whatever comes in. No condition.
-/
import Derived.Test.YtijkkgloennglaaGreatDoorBc
import Derived.Test.YtijkkgloennglaaGreatDoorNf
set_option linter.all false
set_option maxRecDepth 100000
namespace Go.Proofs.YtijkkgloennglaaGreatDoor.Ab
open Go Go.RowKit
attribute [local simp] WL_cons WL_nil guardOk callOf stepOp clsOf pureA readA loudA allocA opd opds Env.get Env.put ofConst binA intBin unA strBin partsOf fillA zeros TV.cells TyI.wrap TyI.agg bnd ofPart ptrVals

theorem law4 {s : St} (hf : Fresh s) {cl nm rs : List UInt8} {p cd ct : AV} {ab : Bool} {L : Int} {ps : List (List UInt8)} (hp : Strs s p ps)
    (haw : ∀ s' : St, Keeps s s' → AC Tryz.prog 7 [] s' (fun r t => r = .v (.bool true) ∧ t = s')) :
    AC Tryz.prog 4 [.v (.str cl), .agg [.str nm, p, .str rs, .bool ab, .int .i64 L, cd, ct]] s (fun r _ => r = .v (.bool true)) := by
  refine ac_of_wc tys_ok hm fnis4 (by simp [fr4]) ?_
  simp only [fr4, cc4]
  have hk : Keeps s (s.new ⟨true, .cells [.str nm, p, .str rs, .bool ab, .int .i64 L, cd, ct]⟩) := Keeps.new _ _
  have hf1 : Fresh (s.new ⟨true, .cells [.str nm, p, .str rs, .bool ab, .int .i64 L, cd, ct]⟩) := hf.new _
  have hp1 := hp.kept hf hk
  have hls : ∀ t, lenA tys 9 (.v (.str cl)) t = some (.v (.int .i64 cl.length)) := fun _ => rfl
  have hSn : s.next < (s.new ⟨true, .cells [.str nm, p, .str rs, .bool ab, .int .i64 L, cd, ct]⟩).next := by simp
  have hlen := fun t => lenA_sl (T := tys) (s := t) (t := 22) (e := 9) (x := p) rfl hp.len
  have hc : (s.new ⟨true, .cells [.str nm, p, .str rs, .bool ab, .int .i64 L, cd, ct]⟩).cells s.next = some [.str nm, p, .str rs, .bool ab, .int .i64 L, cd, ct] := by simp [cells_new_eq]
  rw [wc_sr]; simp -implicitDefEqProofs [argEnv]
  revert hk hf1 hp1 hc hSn
  generalize (s.new ⟨true, .cells [.str nm, p, .str rs, .bool ab, .int .i64 L, cd, ct]⟩) = S
  intro hk hf1 hp1 hSn hc
  by_cases h1 : (100 : Int) < ps.length
  · rw [wc_assoc, wc_sr]; simp -implicitDefEqProofs [kd39, at22, hc, hlen, h1]
    rw [wc_sct (by simp), wc_assoc, wc_sr]; simp -implicitDefEqProofs
    refine ac_det (haw _ hk) ?_
    try simp -implicitDefEqProofs
    rw [wc_sret]
    simp -implicitDefEqProofs [Ends, resA, resAll, resOne]
  by_cases h2 : (1000 : Int) < L
  · rw [wc_assoc, wc_sr]; simp -implicitDefEqProofs [kd39, at22, at3, hc, hlen, h1, h2]
    rw [wc_sct (by simp), wc_assoc, wc_sr]; simp -implicitDefEqProofs
    refine ac_det (haw _ hk) ?_
    try simp -implicitDefEqProofs
    rw [wc_sret]
    simp -implicitDefEqProofs [Ends, resA, resAll, resOne]
  by_cases h3 : (100 : Int) < cl.length
  · rw [wc_assoc, wc_sr]; simp -implicitDefEqProofs [kd39, at22, at3, hc, hlen, h1, h2, h3, hls]
    rw [wc_sct (by simp), wc_assoc, wc_sr]; simp -implicitDefEqProofs
    refine ac_det (haw _ hk) ?_
    try simp -implicitDefEqProofs
    rw [wc_sret]
    simp -implicitDefEqProofs [Ends, resA, resAll, resOne]
  · rw [wc_assoc, wc_sr]; simp -implicitDefEqProofs [kd39, at22, at3, hc, hlen, h1, h2, h3, hls]
    rw [wc_scf (by simp), wc_ss, wc_sr]; simp -implicitDefEqProofs
    refine ac_det (haw _ hk) ?_
    simp -implicitDefEqProofs [at39, hc]
    refine (begin13 hf1 (nm := nm) (rs := rs) (cl := cl) (ab := ab) (cd := cd) (ct := ct) hp1 (by omega) (by omega)).fresh.mono ?_
    rintro r s1 ⟨⟨x, rfl, hx, k1⟩, f1⟩
    have hc1 : s1.cells s.next = some [.str nm, p, .str rs, .bool ab, .int .i64 L, cd, ct] := by unfold St.cells at hc ⊢; rw [k1.old _ hSn]; exact hc
    simp -implicitDefEqProofs [at39, hc1]
    refine (begin14 f1 (nm := nm) (rs := rs) (cl := cl) (ab := ab) (cd := cd) (ct := ct) (hp1.kept hf1 k1) (by omega) (by omega)).fresh.mono ?_
    rintro r s2 ⟨⟨y, rfl, hy, k2⟩, f2⟩
    try simp -implicitDefEqProofs
    have hbl : (beginL cl ps L).length ≤ 100000 := by unfold beginL; rw [List.length_take]; omega
    refine (same11 f2 (.inl ⟨.inl rfl, rfl⟩) (hx.kept f1 k2) (.inl ⟨.inl rfl, rfl⟩) hy (by simp) hbl).mono ?_
    rintro r s3 ⟨rfl, _⟩
    simp -implicitDefEqProofs
    rw [WC_ret]
    simp -implicitDefEqProofs [Ends, resA, resAll, resOne]
theorem one_of {a : List AV} (h : a.length = 1) : ∃ x, a = [x] := by
  match a, h with
  | [x], _ => exact ⟨x, rfl⟩
/-- texts that came in -/
theorem strs_of {s : St} {a : AV} {n : Nat} (h : ShA tys s (n + 2) 22 [a]) : ∃ l, Strs s a l := by
  unfold ShA at h
  rw [kd22] at h
  simp only at h
  rcases h with h | h | ⟨b, len, cap, cs, j, hj, h, hb, hlt, hlc, hcm, hcl, hel⟩
  · cases h; exact ⟨[], .inl ⟨.inl rfl, rfl⟩⟩
  · cases h; exact ⟨[], .inl ⟨.inr rfl, rfl⟩⟩
  · cases h
    obtain rfl : j = ⟨.str, 1, 16, [.str []]⟩ := Option.some.inj (hj.symm.trans at9)
    simp only [Nat.mul_one] at hel hcl
    have hel' : ∀ i, i < len → ∃ z : List UInt8, cs[i]? = some (AV.str z) := by
      intro i hi
      have h := hel i (by omega)
      unfold ShA at h
      rw [kd9] at h
      obtain ⟨z, h, _⟩ := h
      refine ⟨z, ?_⟩
      have := congrArg (fun l => l[0]?) h
      simpa using this
    have hch : ∃ l : List (List UInt8), l.length = len ∧ ∀ (i : Nat) (z : List UInt8), l[i]? = some z → cs[i]? = some (AV.str z) := by
      clear hel hj hlc
      induction len with
      | zero => exact ⟨[], rfl, fun i p h => by simp at h⟩
      | succ m ih =>
        obtain ⟨l, h1, h2⟩ := ih (fun i hi => hel' i (by omega))
        obtain ⟨p, hp⟩ := hel' m (by omega)
        refine ⟨l ++ [p], by simp [h1], fun i q hq => ?_⟩
        by_cases hi : i < m
        · rw [List.getElem?_append_left (by omega)] at hq; exact h2 i q hq
        · have hi' : i = m := by
            have := (List.getElem?_eq_some_iff.1 hq).1
            simp at this; omega
          subst hi'
          rw [List.getElem?_append_right (by omega), h1, Nat.sub_self] at hq
          simp at hq; subst hq; exact hp
    obtain ⟨l, rfl, h2⟩ := hch
    refine ⟨l, .inr ⟨b, 0, some cap, cs, rfl, ?_, ?_, fun i z hz => by rw [Nat.zero_add]; exact h2 i z hz⟩⟩
    · unfold St.cells; rw [hb]
    · omega
theorem law4_any {s : St} {xs : List TV} (hf : Fresh s) (hgl : s.gl = 5) (hn : 5 ≤ s.next) (hk : ∀ b B, g0.get b = some B → s.get b = some B) (hlt : ∀ b B, g0.get b = some B → b < 5) (hx : ArgsSh tys s 4 [9, 39] xs) : AC Tryz.prog 4 xs s (fun r _ => r = .v (.bool true)) := by
  cases xs with
  | nil => exact hx.elim
  | cons x xs =>
    cases xs with
    | nil => exact hx.2.elim
    | cons z xs =>
      cases xs with
      | cons y xs => exact hx.2.2.elim
      | nil =>
        obtain ⟨h1, h2, _⟩ := hx
        unfold ArgSh at h1 h2
        rw [at9] at h1
        rw [at39] at h2
        obtain ⟨a, rfl, h1⟩ := h1
        obtain ⟨c, rfl, h2⟩ := h2
        unfold ShA at h1
        rw [kd9] at h1
        obtain ⟨cl, h1, _⟩ := h1
        cases h1
        unfold ShA at h2
        rw [kd39] at h2
        simp only [ShF] at h2
        obtain ⟨i1, a1, r1, e1, rfl, g1, s1, i2, a2, r2, e2, rfl, g2, s2, i3, a3, r3, e3, rfl, g3, s3, i4, a4, r4, e4, rfl, g4, s4, i5, a5, r5, e5, rfl, g5, s5, i6, a6, r6, e6, rfl, g6, s6, i7, a7, r7, e7, rfl, g7, s7, rfl⟩ := h2
        obtain rfl := Option.some.inj (at22.symm.trans e2)
        obtain rfl := Option.some.inj ((show tys.at 36 = some ⟨.slice 53, 1, 24, [.nils]⟩ from rfl).symm.trans e6)
        obtain rfl := Option.some.inj ((show tys.at 37 = some ⟨.slice 140, 1, 24, [.nils]⟩ from rfl).symm.trans e7)
        obtain ⟨p, rfl⟩ := one_of g2
        obtain ⟨cd, rfl⟩ := one_of g6
        obtain ⟨ct, rfl⟩ := one_of g7
        obtain ⟨ps, hp⟩ := strs_of (n := 1) s2
        unfold ShA at s1 s3 s4 s5
        rw [kd9] at s1 s3
        rw [show tys.kd 4 = some .bool from rfl] at s4
        rw [show tys.kd 3 = some (.int .i64) from rfl] at s5
        obtain ⟨nm, rfl, _⟩ := s1
        obtain ⟨rs, rfl, _⟩ := s3
        obtain ⟨ab, rfl⟩ := s4
        obtain ⟨L, rfl, _⟩ := s5
        refine law4 hf hp (fun s' h => awake_in (h.gl.trans hgl) (fun b B hB => ?_))
        rw [h.old b (by have := hlt b B hB; omega)]; exact hk b B hB
end Go.Proofs.YtijkkgloennglaaGreatDoor.Ab
