/-
  Shapes merged, by the program: with nothing known, and with itself. No condition.
-/
import Derived.Test.YtijkkgloennglaaGreatDoorSc
set_option linter.all false
set_option maxRecDepth 100000
namespace Go.Proofs.YtijkkgloennglaaGreatDoor.Ab
open Go Go.RowKit
attribute [local simp] WL_cons WL_nil guardOk callOf stepOp clsOf pureA readA loudA allocA opd opds Env.get Env.put ofConst binA intBin unA strBin partsOf fillA zeros TV.cells TyI.wrap TyI.agg bnd ofPart ptrVals

/-- three places, put by -/
structure Tri (s : St) (ca cb cz : List AV) (t : St) : Prop where
  k : Keeps s t
  f : Fresh t
  n : s.next + 3 ≤ t.next
  a : t.get s.next = some ⟨true, .cells ca⟩
  b : t.get (s.next + 1) = some ⟨true, .cells cb⟩
  z : t.get (s.next + 2) = some ⟨true, .cells cz⟩
theorem Tri.start {s : St} (hf : Fresh s) (ca cb cz : List AV) : Tri s ca cb cz (((s.new ⟨true, .cells ca⟩).new ⟨true, .cells cb⟩).new ⟨true, .cells cz⟩) :=
  ⟨((Keeps.new _ _).trans (Keeps.new _ _)).trans (Keeps.new _ _), ((hf.new _).new _).new _, by simp, by rw [St.get_new, if_neg (by simp; omega), St.get_new, if_neg (by simp), St.get_new, if_pos rfl], by simp, by simp⟩
theorem Tri.ac {s t : St} {ca cb cz : List AV} (h : Tri s ca cb cz t) : t.cells s.next = some ca := by unfold St.cells; rw [h.a]
theorem Tri.bc {s t : St} {ca cb cz : List AV} (h : Tri s ca cb cz t) : t.cells (s.next + 1) = some cb := by unfold St.cells; rw [h.b]
theorem Tri.zc {s t : St} {ca cb cz : List AV} (h : Tri s ca cb cz t) : t.cells (s.next + 2) = some cz := by unfold St.cells; rw [h.z]
theorem Tri.zo {s t : St} {ca cb cz : List AV} (h : Tri s ca cb cz t) : t.ownCells (s.next + 2) = some cz := by unfold St.ownCells; rw [h.z]
theorem Tri.step {s t t' : St} {ca cb cz : List AV} (h : Tri s ca cb cz t) (hk : ∀ c, c < s.next + 3 → t'.get c = t.get c) (hn : t.next ≤ t'.next) (hg : t'.gl = t.gl) (hf : Fresh t') : Tri s ca cb cz t' :=
  ⟨⟨hg.trans h.k.gl, fun b hb => (hk b (by omega)).trans (h.k.old b hb), Nat.le_trans h.k.next hn⟩, hf, Nat.le_trans h.n hn, (hk _ (by omega)).trans h.a, (hk _ (by omega)).trans h.b, (hk _ (by omega)).trans h.z⟩
theorem Tri.keeps {s t t' : St} {ca cb cz : List AV} (h : Tri s ca cb cz t) (k : Keeps t t') (hf : Fresh t') : Tri s ca cb cz t' :=
  h.step (fun c hc => k.old c (by have := h.n; omega)) k.next k.gl hf
theorem Tri.end {s t : St} {ca cb cz : List AV} (h : Tri s ca cb cz t) (B : Blk) : Keeps s (t.put (s.next + 2) B) ∧ Fresh (t.put (s.next + 2) B) :=
  ⟨⟨h.k.gl, fun c hc => by rw [St.get_put, if_neg (by omega)]; exact h.k.old c hc, h.k.next⟩, h.f.put (by have := h.n; omega) B⟩

theorem merge_l {s : St} (hf : Fresh s) {tp : Nat} {c : Bool} {u1 u2 x1 x2 : AV} {l1 l2 : List (List UInt8)} (h1 : Strs s x1 l1) (h2 : Strs s x2 l2) (b1 : l1.length ≤ 1000) (b2 : l2.length ≤ 1000) :
    AC Tryz.prog 10 [.v (.ptr tp 0), .agg [.bool false, u1, u2], .agg [.bool c, x1, x2]] s (fun r t => ∃ y1 y2, r = .tup [(true, [.bool c, y1, y2]), (false, [.int .i64 0])] ∧ StrsN s.next t y1 l1 ∧ StrsN s.next t y2 l2 ∧ Keeps s t ∧ Fresh t) := by
  refine ac_of_wc tys_ok hm fnis10 (by simp [fr10]) ?_
  simp only [fr10, cc10]
  rw [wc_sr]; simp -implicitDefEqProofs [argEnv, at24]
  have hS := Tri.start hf [.bool false, u1, u2] [.bool c, x1, x2] [.bool false, .nils, .nils]
  revert hS
  generalize (((s.new ⟨true, .cells [.bool false, u1, u2]⟩).new ⟨true, .cells [.bool c, x1, x2]⟩).new ⟨true, .cells [.bool false, .nils, .nils]⟩) = S
  intro hS
  have hSn := hS.n
  rw [wc_sb, wc_sr]; simp -implicitDefEqProofs [kd24, at4, hS.ac]
  rw [wc_ct (by simp), wc_sr]; simp -implicitDefEqProofs [at24, hS.bc]
  refine (cloned25 hS.f (h1.kept hf hS.k) (h2.kept hf hS.k) b1 b2).mono ?_
  rintro r t ⟨y1, y2, rfl, e1, e2, k1, f1⟩
  have hT := hS.keeps k1 f1
  simp -implicitDefEqProofs [at24, hT.zo]
  rw [WC_ret]
  simp -implicitDefEqProofs [BlkK, Ends, resA, resAll, resOne, partAll, TV.part, at24, cells_put_eq]
  exact ⟨y1, y2, ⟨rfl, rfl⟩, (e1.put (by omega) _).mono (by omega), (e2.put (by omega) _).mono (by omega), hT.end _⟩
theorem merge_r {s : St} (hf : Fresh s) {tp : Nat} {u1 u2 x1 x2 : AV} {l1 l2 : List (List UInt8)} (h1 : Strs s x1 l1) (h2 : Strs s x2 l2) (b1 : l1.length ≤ 1000) (b2 : l2.length ≤ 1000) :
    AC Tryz.prog 10 [.v (.ptr tp 0), .agg [.bool true, x1, x2], .agg [.bool false, u1, u2]] s (fun r t => ∃ y1 y2, r = .tup [(true, [.bool true, y1, y2]), (false, [.int .i64 0])] ∧ StrsN s.next t y1 l1 ∧ StrsN s.next t y2 l2 ∧ Keeps s t ∧ Fresh t) := by
  refine ac_of_wc tys_ok hm fnis10 (by simp [fr10]) ?_
  simp only [fr10, cc10]
  rw [wc_sr]; simp -implicitDefEqProofs [argEnv, at24]
  have hS := Tri.start hf [.bool true, x1, x2] [.bool false, u1, u2] [.bool false, .nils, .nils]
  revert hS
  generalize (((s.new ⟨true, .cells [.bool true, x1, x2]⟩).new ⟨true, .cells [.bool false, u1, u2]⟩).new ⟨true, .cells [.bool false, .nils, .nils]⟩) = S
  intro hS
  have hSn := hS.n
  rw [wc_sb, wc_sr]; simp -implicitDefEqProofs [kd24, at4, hS.ac]
  rw [wc_cf (by simp), wc_sr]; simp -implicitDefEqProofs [kd24, at4, hS.bc]
  rw [wc_ct (by simp), wc_sr]; simp -implicitDefEqProofs [at24, hS.ac]
  refine (cloned25 hS.f (h1.kept hf hS.k) (h2.kept hf hS.k) b1 b2).mono ?_
  rintro r t ⟨y1, y2, rfl, e1, e2, k1, f1⟩
  have hT := hS.keeps k1 f1
  simp -implicitDefEqProofs [at24, hT.zo]
  rw [WC_ret]
  simp -implicitDefEqProofs [BlkK, Ends, resA, resAll, resOne, partAll, TV.part, at24, cells_put_eq]
  exact ⟨y1, y2, ⟨rfl, rfl⟩, (e1.put (by omega) _).mono (by omega), (e2.put (by omega) _).mono (by omega), hT.end _⟩
/-- the new shape's place -/
theorem kind_nil (ns : List (List UInt8 × Int)) : kindB ns [] = false := by simp [kindB, rightB, baseB, plainB, classB]
theorem merge_s {s : St} (hf : Fresh s) (hgl : s.gl = 5) {tp : Nat} {ns : List (List UInt8 × Int)} (ht : Tab s tp ns) {x1 x2 : AV} {l1 l2 : List (List UInt8)} (h1 : Strs s x1 l1) (h2 : Strs s x2 l2) (b1 : l1.length ≤ 40) (b2 : l2.length ≤ 40)
    (k1 : ∀ k ∈ l1, k.length ≤ 100 ∧ kindB ns k = true) (k2 : ∀ k ∈ l2, k.length ≤ 100 ∧ (k ≠ [] → kindB ns k = true)) :
    AC Tryz.prog 10 [.v (.ptr tp 0), .agg [.bool true, x1, x2], .agg [.bool true, x1, x2]] s (fun r t => ∃ y1 y2, r = .tup [(true, [.bool true, y1, y2]), (false, [.int .i64 0])] ∧ StrsN s.next t y1 l1 ∧ StrsN s.next t y2 l2 ∧ Keeps s t ∧ Fresh t) := by
  refine ac_of_wc tys_ok hm fnis10 (by simp [fr10]) ?_
  simp only [fr10, cc10]
  rw [wc_sr]; simp -implicitDefEqProofs [argEnv, at24]
  have hS := Tri.start hf [.bool true, x1, x2] [.bool true, x1, x2] [.bool false, .nils, .nils]
  revert hS
  generalize (((s.new ⟨true, .cells [.bool true, x1, x2]⟩).new ⟨true, .cells [.bool true, x1, x2]⟩).new ⟨true, .cells [.bool false, .nils, .nils]⟩) = S
  intro hS
  have hSn := hS.n
  have e1 := fun s => lenA_sl (T := tys) (s := s) (t := 22) (e := 9) (x := x1) rfl h1.len
  have e2 := fun s => lenA_sl (T := tys) (s := s) (t := 22) (e := 9) (x := x2) rfl h2.len
  rw [wc_sb, wc_sr]; simp -implicitDefEqProofs [kd24, at4, hS.ac]
  rw [wc_cf (by simp), wc_sr]; simp -implicitDefEqProofs [kd24, at4, hS.bc]
  rw [wc_cf (by simp), wc_sr]; simp -implicitDefEqProofs [kd24, at22, hS.ac, hS.bc, e1, e2]
  rw [wc_cf (by simp), WC_skip, blk_normal, wc_sr]
  simp -implicitDefEqProofs [at24, kd24, fieldPlaces, at4, at22, cells_new_eq, own_new_eq]
  have hS1 : Tri s [.bool true, x1, x2] [.bool true, x1, x2] [.bool false, .nils, .nils] ((S.new ⟨true, .cells [.bool false, .nils, .nils]⟩).put S.next ⟨true, .cells [.bool true, .nils, .nils]⟩) :=
    (hS.keeps (Keeps.new _ _) (hS.f.new _)).step (fun c hc => by rw [St.get_put, if_neg (by omega)]) (by simp) rfl ((hS.f.new _).put (by simp) _)
  rw [wc_assoc, wc_sr]; simp -implicitDefEqProofs [kd24, at22, hS1.ac, e1]
  rw [wc_sb]
  obtain ⟨I, hI⟩ : ∃ I : Nat → Env → St → Prop, ∀ m e t, I m e t = ∃ (i : Nat) (y : AV), m = l1.length - i ∧ i ≤ l1.length ∧ e = [(0, .v (.ptr tp 0)), (4, .v (.ptr s.next 0)), (5, .v (.ptr (s.next + 1) 0)), (6, .v (.ptr (s.next + 2) 0)), (8, .v (.ptr S.next 0)), (47, .v x1), (48, .v (.int .i64 l1.length)), (49, .v (.int .i64 i))] ∧ S.next < t.next ∧ t.get S.next = some ⟨true, .cells [.bool true, y, .nils]⟩ ∧ Loc14 t (S.next + 1) y (l1.take i) ∧ Tri s [.bool true, x1, x2] [.bool true, x1, x2] [.bool false, .nils, .nils] t := ⟨_, fun _ _ _ => rfl⟩
  refine wc_loopI I l1.length ?_ ?_
  · rw [hI]
    exact ⟨0, .nils, by omega, by omega, by simp [Env.keep], by simp, by rw [St.get_put, if_pos rfl], .inl ⟨rfl, by simp⟩, hS1⟩
  intro m e t hIt
  rw [hI] at hIt
  obtain ⟨i, y, rfl, hi, rfl, hnt, h5, hloc, hB⟩ := hIt
  have hc5 : t.cells S.next = some [.bool true, y, .nils] := by unfold St.cells; rw [h5]
  have hpt : Strs t x1 l1 := h1.kept hf hB.k
  rw [wc_sr]; simp -implicitDefEqProofs
  by_cases hlt : i < l1.length
  · obtain ⟨bp, op, g1, g2⟩ := hpt.at hlt
    simp at g1 g2
    have hmem := k1 l1[i] (List.getElem_mem hlt)
    have hkne : l1[i] ≠ [] := fun h => by have := hmem.2; rw [h, kind_nil] at this; cases this
    have hget : l1[i]? = some l1[i] := by simp
    generalize l1[i] = k at g2 hmem hkne hget
    rw [wc_sct (by simp [hlt]), wc_ss, wc_sb, wc_sr]; simp -implicitDefEqProofs [g1, g2]
    rw [wc_sr]; simp -implicitDefEqProofs [kd24, at22, hB.bc, g1, g2]
    refine ac_det (join26 (by rw [hB.k.gl]; exact hgl) (ht.kept hB.k) (by omega) hmem.2) ?_
    try simp -implicitDefEqProofs
    rw [wc_assoc, wc_sr]; simp -implicitDefEqProofs
    rw [wc_scf (by simp [hkne]), wc_ss]
    obtain ⟨y', t', ha, hl', hk, hn, hg, hf'⟩ := append14 (n0 := S.next + 1) hB.f hloc k (by simp; omega) (by omega)
    have h5' : t'.ownCells S.next = some [.bool true, y, .nils] := by unfold St.ownCells; rw [hk S.next (by omega), h5]
    rw [WC_reg]; simp -implicitDefEqProofs [kd24, at22, at9, kd22, hc5, ha, h5']
    rw [blk_normal, WC_reg]; simp -implicitDefEqProofs
    refine ⟨l1.length - (i + 1), by omega, ?_⟩
    rw [hI]
    refine ⟨i + 1, y', rfl, by omega, by rw [wrap_small (by omega) (by omega)]; simp [Env.keep], by simp; omega, by rw [St.get_put, if_pos rfl], ?_, ?_⟩
    · have hfull : l1.take i ++ [k] = l1.take (i + 1) := by rw [List.take_add_one, hget]; rfl
      rw [hfull] at hl'
      rcases hl' with h | ⟨b, h1, h2, h3, h4⟩
      · exact .inl h
      · refine .inr ⟨b, h1, ?_, h3, by simpa using h4⟩
        unfold OwnS; rw [St.get_put, if_neg (by omega)]; exact h2
    · exact (hB.step (fun c hc => hk c (by omega)) hn hg hf').step (fun c hc => by rw [St.get_put, if_neg (by omega)]) (by simp) rfl (hf'.put (by omega) _)
  · have hil : i = l1.length := by omega
    subst hil
    rw [List.take_length] at hloc
    rw [wc_scf (by simp), wc_sexit]
    show BlkK _ _ 1 _ _ (.exit 1) _ _
    rw [blk_exit, wc_assoc, wc_sr]; simp -implicitDefEqProofs [kd24, at22, hB.ac, e2]
    rw [wc_sb]
    clear hI
    have hYt : (y = .nils ∧ l1 = []) ∨ ∃ b, y = .sl b 0 l1.length 1 none ∧ OwnS t b l1 ∧ S.next + 1 ≤ b ∧ b < t.next := hloc
    obtain ⟨m2, hm2⟩ : ∃ m2, m2 = t.next := ⟨_, rfl⟩
    have hSm : S.next + 1 ≤ m2 := by omega
    obtain ⟨J, hJ⟩ : ∃ J : Nat → Env → St → Prop, ∀ m e u, J m e u = ∃ (i : Nat) (z : AV), m = l2.length - i ∧ i ≤ l2.length ∧ e = [(0, .v (.ptr tp 0)), (5, .v (.ptr (s.next + 1) 0)), (6, .v (.ptr (s.next + 2) 0)), (8, .v (.ptr S.next 0)), (73, .v x2), (74, .v (.int .i64 l2.length)), (75, .v (.int .i64 i))] ∧ m2 ≤ u.next ∧ u.get S.next = some ⟨true, .cells [.bool true, y, z]⟩ ∧ Loc14 u m2 z (l2.take i) ∧ ((y = .nils ∧ l1 = []) ∨ ∃ b, y = .sl b 0 l1.length 1 none ∧ OwnS u b l1 ∧ S.next + 1 ≤ b ∧ b < m2) ∧ Tri s [.bool true, x1, x2] [.bool true, x1, x2] [.bool false, .nils, .nils] u := ⟨_, fun _ _ _ => rfl⟩
    refine wc_loopI J l2.length ?_ ?_
    · rw [hJ]
      exact ⟨0, .nils, by omega, by omega, by simp [Env.keep], by omega, h5, .inl ⟨rfl, by simp⟩, by rw [hm2]; exact hYt, hB⟩
    clear hYt hB hc5 hpt hi hloc hlt h5 hnt hm2
    generalize y = Y at hJ
    clear t y
    intro m e t hIt
    rw [hJ] at hIt
    obtain ⟨i, y, rfl, hi, rfl, hnt, h5, hloc, hY, hB⟩ := hIt
    have hc5 : t.cells S.next = some [.bool true, Y, y] := by unfold St.cells; rw [h5]
    have hpt : Strs t x2 l2 := h2.kept hf hB.k
    rw [wc_sr]; simp -implicitDefEqProofs
    by_cases hlt : i < l2.length
    · obtain ⟨bp, op, g1, g2⟩ := hpt.at hlt
      simp at g1 g2
      have hmem := k2 l2[i] (List.getElem_mem hlt)
      have hget : l2[i]? = some l2[i] := by simp
      generalize l2[i] = k at g2 hmem hget
      rw [wc_sct (by simp [hlt]), wc_ss, wc_sb, wc_sr]; simp -implicitDefEqProofs [g1, g2]
      rw [wc_sr]; simp -implicitDefEqProofs
      by_cases hk0 : k = []
      · subst hk0
        rw [wc_assoc, wc_sr]; simp -implicitDefEqProofs
        rw [wc_scf (by simp), wc_ss]
        obtain ⟨y', t', ha, hl', hk, hn, hg, hf'⟩ := append14 (n0 := m2) hB.f hloc [] (by simp; omega) (by omega)
        have h5' : t'.ownCells S.next = some [.bool true, Y, y] := by unfold St.ownCells; rw [hk S.next (by omega), h5]
        rw [WC_reg]; simp -implicitDefEqProofs [kd24, at22, at9, kd22, hc5, ha, h5']
        rw [blk_normal, WC_reg]; simp -implicitDefEqProofs
        refine ⟨l2.length - (i + 1), by omega, ?_⟩
        rw [hJ]
        refine ⟨i + 1, y', rfl, by omega, by rw [wrap_small (by omega) (by omega)]; simp [Env.keep], by simp; omega, by rw [St.get_put, if_pos rfl], ?_, ?_, ?_⟩
        · have hfull : l2.take i ++ [[]] = l2.take (i + 1) := by rw [List.take_add_one, hget]; rfl
          rw [hfull] at hl'
          rcases hl' with h | ⟨b, h1, h2, h3, h4⟩
          · exact .inl h
          · refine .inr ⟨b, h1, ?_, h3, by simpa using h4⟩
            unfold OwnS; rw [St.get_put, if_neg (by omega)]; exact h2
        · rcases hY with h | ⟨b, h1, h2, h3, h4⟩
          · exact .inl h
          · refine .inr ⟨b, h1, ?_, h3, h4⟩
            unfold OwnS; rw [St.get_put, if_neg (by omega), hk b (by omega)]; exact h2
        · exact (hB.step (fun c hc => hk c (by omega)) hn hg hf').step (fun c hc => by rw [St.get_put, if_neg (by omega)]) (by simp) rfl (hf'.put (by omega) _)

      · have hkb : (k == []) = false := by simp [hk0]
        rw [wc_assoc, wc_sr]; simp -implicitDefEqProofs [hkb, hk0, kd24, at22, hB.bc, g1, g2]
        rw [wc_sct (by simp [hk0]), wc_sr]; simp -implicitDefEqProofs [kd24, at22, hB.bc, g1, g2]
        refine ac_det (join26 (by rw [hB.k.gl]; exact hgl) (ht.kept hB.k) (by omega) (hmem.2 hk0)) ?_
        try simp -implicitDefEqProofs
        obtain ⟨y', t', ha, hl', hk, hn, hg, hf'⟩ := append14 (n0 := m2) hB.f hloc k (by simp; omega) (by omega)
        have h5' : t'.ownCells S.next = some [.bool true, Y, y] := by unfold St.ownCells; rw [hk S.next (by omega), h5]
        rw [WC_reg]; simp -implicitDefEqProofs [kd24, at22, at9, kd22, hc5, ha, h5']
        rw [blk_normal, WC_reg]; simp -implicitDefEqProofs
        refine ⟨l2.length - (i + 1), by omega, ?_⟩
        rw [hJ]
        refine ⟨i + 1, y', rfl, by omega, by rw [wrap_small (by omega) (by omega)]; simp [Env.keep], by simp; omega, by rw [St.get_put, if_pos rfl], ?_, ?_, ?_⟩
        · have hfull : l2.take i ++ [k] = l2.take (i + 1) := by rw [List.take_add_one, hget]; rfl
          rw [hfull] at hl'
          rcases hl' with h | ⟨b, h1, h2, h3, h4⟩
          · exact .inl h
          · refine .inr ⟨b, h1, ?_, h3, by simpa using h4⟩
            unfold OwnS; rw [St.get_put, if_neg (by omega)]; exact h2
        · rcases hY with h | ⟨b, h1, h2, h3, h4⟩
          · exact .inl h
          · refine .inr ⟨b, h1, ?_, h3, h4⟩
            unfold OwnS; rw [St.get_put, if_neg (by omega), hk b (by omega)]; exact h2
        · exact (hB.step (fun c hc => hk c (by omega)) hn hg hf').step (fun c hc => by rw [St.get_put, if_neg (by omega)]) (by simp) rfl (hf'.put (by omega) _)

    · have hil : i = l2.length := by omega
      subst hil
      rw [List.take_length] at hloc
      rw [wc_scf (by simp), wc_sexit]
      show BlkK _ _ 3 _ _ (.exit 3) _ _
      rw [blk_exit, wc_sr]; simp -implicitDefEqProofs [at24, hc5, hB.zo]
      rw [WC_ret]
      simp -implicitDefEqProofs [Ends, resA, resAll, resOne, partAll, TV.part, at24, cells_put_eq]
      have q1 : StrsN (s.next + 3) t Y l1 := by
        rcases hY with h | ⟨b, h1, h2, h3, _⟩
        · exact .inl h
        · exact .inr ⟨b, none, h1, h2, by omega⟩
      have q2 : StrsN (s.next + 3) t y l2 := by
        rcases hloc with h | ⟨b, h1, h2, h3, _⟩
        · exact .inl h
        · exact .inr ⟨b, none, h1, h2, by omega⟩
      exact ⟨Y, y, ⟨rfl, rfl⟩, (q1.put (by omega) _).mono (by omega), (q2.put (by omega) _).mono (by omega), hB.end _⟩
/-- texts that aren't too many or long -/
def Few (l1 l2 : List (List UInt8)) : Prop := l1.length ≤ 40 ∧ l2.length ≤ 40 ∧ (∀ k ∈ l1, k.length ≤ 100) ∧ ∀ k ∈ l2, k.length ≤ 100
theorem few8 {s : St} (hf : Fresh s) {c : Bool} {x1 x2 : AV} {l1 l2 : List (List UInt8)} (h1 : Strs s x1 l1) (h2 : Strs s x2 l2) : AC Tryz.prog 8 [.agg [.bool c, x1, x2]] s (fun r t => ∃ b, r = .v (.bool b) ∧ (b = true → Few l1 l2) ∧ Keeps s t ∧ Fresh t) := by
  refine ac_of_wc tys_ok hm fnis8 (by simp [fr8]) ?_
  simp only [fr8, cc8]
  have hk := Keeps.new s ⟨true, .cells [.bool c, x1, x2]⟩
  have hf1 : Fresh (s.new ⟨true, .cells [.bool c, x1, x2]⟩) := hf.new _
  have hc : (s.new ⟨true, .cells [.bool c, x1, x2]⟩).cells s.next = some [.bool c, x1, x2] := by simp [cells_new_eq]
  have e1 := fun s => lenA_sl (T := tys) (s := s) (t := 22) (e := 9) (x := x1) rfl h1.len
  have e2 := fun s => lenA_sl (T := tys) (s := s) (t := 22) (e := 9) (x := x2) rfl h2.len
  have g1 := h1.kept hf hk
  have g2 := h2.kept hf hk
  rw [wc_sr]; simp -implicitDefEqProofs [argEnv]
  revert hk hf1 hc g1 g2
  generalize (s.new ⟨true, .cells [.bool c, x1, x2]⟩) = S
  intro hk hf1 hc g1 g2
  by_cases n1 : (40 : Int) < l1.length
  · rw [wc_assoc, wc_sr]; simp -implicitDefEqProofs [kd24, at22, hc, e1, e2, n1]
    rw [wc_sct (by simp [n1]), wc_assoc, wc_sr]; simp -implicitDefEqProofs
    rw [wc_sret]
    simp -implicitDefEqProofs [Ends, resA, resAll, resOne]
    exact ⟨hk, hf1⟩
  by_cases n2 : (40 : Int) < l2.length
  · rw [wc_assoc, wc_sr]; simp -implicitDefEqProofs [kd24, at22, hc, e1, e2, n1, n2]
    rw [wc_sct (by simp), wc_assoc, wc_sr]; simp -implicitDefEqProofs
    rw [wc_sret]
    simp -implicitDefEqProofs [Ends, resA, resAll, resOne]
    exact ⟨hk, hf1⟩
  rw [wc_assoc, wc_sr]; simp -implicitDefEqProofs [kd24, at22, hc, e1, e2, n1, n2]
  rw [wc_scf (by simp), wc_ss, wc_assoc, wc_sr]; simp -implicitDefEqProofs
  rw [wc_sb]
  obtain ⟨I, hI⟩ : ∃ I : Nat → Env → St → Prop, ∀ m e t, I m e t = ∃ (i : Nat), m = l1.length - i ∧ i ≤ l1.length ∧ e = [(1, .v (.ptr s.next 0)), (3, .v (.int .i64 i))] ∧ (∀ (j : Nat) k, j < i → l1[j]? = some k → k.length ≤ 100) ∧ t = S := ⟨_, fun _ _ _ => rfl⟩
  refine wc_loopI I l1.length ?_ ?_
  · rw [hI]; exact ⟨0, by omega, by omega, by simp [Env.keep], fun j k h => by omega, rfl⟩
  intro m e t hIt
  rw [hI] at hIt
  obtain ⟨i, rfl, hi, rfl, hj, rfl⟩ := hIt
  rw [wc_assoc, wc_sr]; simp -implicitDefEqProofs [kd24, at22, hc, e1]
  by_cases hlt : i < l1.length
  · obtain ⟨bp, op, i1, i2⟩ := g1.at hlt
    simp at i1 i2
    rw [wc_sct (by simp [hlt]), wc_ss, wc_sb, wc_sr]; simp -implicitDefEqProofs [kd24, at22, hc, i1, i2, lenS]
    by_cases hb : (100 : Int) < l1[i].length
    · rw [wc_ct (by simp [hb]), wc_sr]; simp -implicitDefEqProofs
      rw [WC_ret]
      simp -implicitDefEqProofs [BlkK, Ends, resA, resAll, resOne]
      exact ⟨hk, hf1⟩
    · rw [wc_cf (by simp [hb]), WC_skip, blk_normal, WC_reg]; simp -implicitDefEqProofs
      refine ⟨l1.length - (i + 1), by omega, ?_⟩
      rw [hI]
      refine ⟨i + 1, rfl, by omega, by rw [wrap_small (by omega) (by omega)]; simp [Env.keep], fun j k h hk => ?_, rfl⟩
      by_cases e : j = i
      · subst e; rw [List.getElem?_eq_getElem hlt] at hk; cases hk; omega
      · exact hj j k (by omega) hk
  · have hil : i = l1.length := by omega
    subst hil
    rw [wc_scf (by simp), wc_sexit]
    show BlkK _ _ 0 _ _ (.exit 0) _ _
    rw [blk_exit, wc_assoc, wc_sr]; simp -implicitDefEqProofs
    rw [wc_sb]
    have hall1 : ∀ k ∈ l1, k.length ≤ 100 := fun k hk => by
      obtain ⟨j, hj', rfl⟩ := List.getElem_of_mem hk
      exact hj j _ hj' (by simp)
    clear hI hj hi hlt
    obtain ⟨J, hJ⟩ : ∃ J : Nat → Env → St → Prop, ∀ m e u, J m e u = ∃ (i : Nat), m = l2.length - i ∧ i ≤ l2.length ∧ e = [(1, .v (.ptr s.next 0)), (4, .v (.int .i64 i))] ∧ (∀ (j : Nat) k, j < i → l2[j]? = some k → k.length ≤ 100) ∧ u = t := ⟨_, fun _ _ _ => rfl⟩
    refine wc_loopI J l2.length ?_ ?_
    · rw [hJ]; exact ⟨0, by omega, by omega, by simp [Env.keep], fun j k h => by omega, rfl⟩
    intro m e u hIt
    rw [hJ] at hIt
    obtain ⟨i, rfl, hi, rfl, hj, rfl⟩ := hIt
    rw [wc_assoc, wc_sr]; simp -implicitDefEqProofs [kd24, at22, hc, e2]
    by_cases hlt : i < l2.length
    · obtain ⟨bp, op, i1, i2⟩ := g2.at hlt
      simp at i1 i2
      rw [wc_sct (by simp [hlt]), wc_ss, wc_sb, wc_sr]; simp -implicitDefEqProofs [kd24, at22, hc, i1, i2, lenS]
      by_cases hb : (100 : Int) < l2[i].length
      · rw [wc_ct (by simp [hb]), wc_sr]; simp -implicitDefEqProofs
        rw [WC_ret]
        simp -implicitDefEqProofs [BlkK, Ends, resA, resAll, resOne]
        exact ⟨hk, hf1⟩
      · rw [wc_cf (by simp [hb]), WC_skip, blk_normal, WC_reg]; simp -implicitDefEqProofs
        refine ⟨l2.length - (i + 1), by omega, ?_⟩
        rw [hJ]
        refine ⟨i + 1, rfl, by omega, by rw [wrap_small (by omega) (by omega)]; simp [Env.keep], fun j k h hk => ?_, rfl⟩
        by_cases e : j = i
        · subst e; rw [List.getElem?_eq_getElem hlt] at hk; cases hk; omega
        · exact hj j k (by omega) hk
    · have hil : i = l2.length := by omega
      subst hil
      rw [wc_scf (by simp), wc_sexit]
      show BlkK _ _ 2 _ _ (.exit 2) _ _
      rw [blk_exit, wc_sr]; simp -implicitDefEqProofs
      rw [WC_ret]
      have hall2 : ∀ k ∈ l2, k.length ≤ 100 := fun k hk => by
        obtain ⟨j, hj', rfl⟩ := List.getElem_of_mem hk
        exact hj j _ hj' (by simp)
      simp -implicitDefEqProofs [Ends, resA, resAll, resOne]
      exact ⟨⟨by omega, by omega, hall1, hall2⟩, hk, hf1⟩
end Go.Proofs.YtijkkgloennglaaGreatDoor.Ab
