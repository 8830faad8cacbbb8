/-
  What is known at first, by the document. No condition.
-/
import Derived.Test.YtijkkgloennglaaGreatDoorBb
set_option linter.all false
set_option maxRecDepth 100000
namespace Go.Proofs.YtijkkgloennglaaGreatDoor.Ab
open Go Go.RowKit
attribute [local simp] WL_cons WL_nil guardOk callOf stepOp clsOf pureA readA loudA allocA opd opds Env.get Env.put ofConst binA intBin unA strBin partsOf fillA zeros TV.cells TyI.wrap TyI.agg bnd ofPart ptrVals

/-- the locals so far -/
def Loc14 (t : St) (n0 : Nat) (y : AV) (l : List (List UInt8)) : Prop := (y = .nils ∧ l = []) ∨ ∃ b, y = .sl b 0 l.length 1 none ∧ OwnS t b l ∧ n0 ≤ b ∧ b < t.next
theorem Loc14.strs {t : St} {n0 : Nat} {y : AV} {l : List (List UInt8)} (h : Loc14 t n0 y l) : Strs t y l := by
  rcases h with ⟨rfl, rfl⟩ | ⟨b, rfl, h, _⟩
  · exact .inl ⟨.inl rfl, rfl⟩
  · have := h.strs (cap := none) (Nat.le_refl _)
    rwa [List.take_length] at this
theorem append14 {t : St} (hf : Fresh t) {n0 : Nat} {y : AV} {l : List (List UInt8)} (h : Loc14 t n0 y l) (k : List UInt8) (hl : l.length ≤ 1000) (hn : n0 ≤ t.next) :
    ∃ y' t', appendA tys 22 (.v y) (.v (.sl t.next 0 1 1 (some 1))) (t.new ⟨true, .cells [.str k]⟩) = some (.v y', t') ∧ Loc14 t' n0 y' (l ++ [k]) ∧ (∀ c, c < n0 → t'.get c = t.get c) ∧ t.next ≤ t'.next ∧ t'.gl = t.gl ∧ Fresh t' := by
  have hq : Strs (t.new ⟨true, .cells [.str k]⟩) (.sl t.next 0 1 1 (some 1)) [k] := .inr ⟨t.next, 0, some 1, [.str k], rfl, by simp [cells_new_eq], by simp, fun i z hz => match i, hz with | 0, hz => by simpa using hz | j + 1, hz => by simp at hz⟩
  rcases h with ⟨rfl, rfl⟩ | ⟨b, rfl, ho, hb, hbt⟩
  · refine ⟨.sl (t.next + 1) 0 1 1 none, (t.new ⟨true, .cells [.str k]⟩).new ⟨true, .cells [.str k]⟩, ?_, .inr ⟨t.next + 1, rfl, ?_, by omega, by simp⟩, fun c hc => ?_, by simp; omega, rfl, (hf.new _).new _⟩
    · unfold appendA
      rw [kd22]
      simp only [at9, hq.src]
      simp [moreA]
    · unfold OwnS; simp
    · rw [St.get_new, if_neg (by simp; omega), St.get_new, if_neg (by omega)]
  · obtain ⟨b', cap', t', ha, ho', hcap', hk, hn', hg, hf', hb', _⟩ := append_strs (s := t.new ⟨true, .cells [.str k]⟩) (b := b) (cap := none) (l := l) (q := [k]) (hf.new _) (by unfold OwnS; rw [St.get_new, if_neg (by omega)]; exact ho) (.inl rfl) hq (by simp; omega)
    have hcn : cap' = none := by
      have h2 : ∀ v : TV × St, appendA tys 22 (.v (.sl b 0 l.length 1 none)) (.v (.sl t.next 0 1 1 (some 1))) (t.new ⟨true, .cells [.str k]⟩) = some v → ∃ c n, v.1 = .v (.sl c 0 n 1 none) := by
        intro v hv
        unfold appendA at hv
        rw [kd22] at hv
        simp only [at9, hq.src] at hv
        simp only [List.length_cons, List.length_nil] at hv
        rw [if_neg (by omega), if_neg (by omega)] at hv
        simp only [moreA] at hv
        split at hv
        · cases hv
        · split at hv
          · rename_i h1; cases h1
          · split at hv
            · cases hv; exact ⟨_, _, rfl⟩
            · cases hv
          · cases hv
      obtain ⟨c, n, h3⟩ := h2 _ ha
      simp only [TV.v.injEq, AV.sl.injEq] at h3
      exact h3.2.2.2.2
    subst hcn
    have hbt' : b' < t'.next := by
      apply Decidable.byContradiction; intro hx
      have := hf' b' (by omega); unfold OwnS at ho'; rw [this] at ho'; cases ho'
    refine ⟨_, t', ha, .inr ⟨b', rfl, ho', ?_, hbt'⟩, fun c hc => ?_, by simp at hn'; omega, hg, hf'⟩
    · rcases hb' with h | h
      · omega
      · rw [h]; simp; omega
    · rw [hk c (by simp; omega) (by omega), St.get_new, if_neg (by omega)]

theorem begin14 {s : St} (hf : Fresh s) {cl nm rs : List UInt8} {p cd ct : AV} {ab : Bool} {L : Int} {ps : List (List UInt8)} (hp : Strs s p ps) (hps : ps.length ≤ 100) (hL : L ≤ 1000) :
    AC Tryz.prog 14 [.v (.str cl), .agg [.str nm, p, .str rs, .bool ab, .int .i64 L, cd, ct]] s (fun r s' => ∃ x, r = .agg [.bool true, .nils, x] ∧ Strs s' x (beginL cl ps L) ∧ Keeps s s') := by
  refine ac_of_wc tys_ok hm fnis14 (by simp [fr14]) ?_
  simp only [fr14, cc14]
  rw [wc_sr]; simp -implicitDefEqProofs [argEnv, at24]
  have hS := Bg.start hf [.str nm, p, .str rs, .bool ab, .int .i64 L, cd, ct] [.bool false, .nils, .nils]
  revert hS
  generalize ((s.new ⟨true, .cells [.str nm, p, .str rs, .bool ab, .int .i64 L, cd, ct]⟩).new ⟨true, .cells [.bool false, .nils, .nils]⟩) = S
  intro hS
  rw [wc_sr]; simp -implicitDefEqProofs [at24, kd24, fieldPlaces, at4, at22, cells_new_eq, own_new_eq]
  rw [wc_assoc, wc_sr]; simp -implicitDefEqProofs
  rw [wc_sb]
  generalize hfull0 : cl :: ps ++ List.replicate 1000 ([] : List UInt8) = full
  have hbl : beginL cl ps L = full.take L.toNat := by unfold beginL; rw [hfull0]
  have hflen : full.length = ps.length + 1001 := by rw [← hfull0]; simp
  rw [hbl]
  obtain ⟨I, hI⟩ : ∃ I : Nat → Env → St → Prop, ∀ m e t, I m e t = ∃ (i : Nat) (y : AV), m = 1001 - i ∧ (i : Int) ≤ max L 0 ∧ i ≤ 1000 ∧ e = [(0, .v (.str cl)), (3, .v (.ptr s.next 0)), (4, .v (.ptr (s.next + 1) 0)), (5, .v (.ptr S.next 0)), (6, .v (.int .i64 i))] ∧ S.next < t.next ∧ t.get S.next = some ⟨true, .cells [.bool true, .nils, y]⟩ ∧ Loc14 t (S.next + 1) y (full.take i) ∧ Bg s [.str nm, p, .str rs, .bool ab, .int .i64 L, cd, ct] [.bool false, .nils, .nils] t := ⟨_, fun _ _ _ => rfl⟩
  refine wc_loopI I 1001 ?_ ?_
  · rw [hI]
    refine ⟨0, .nils, rfl, by omega, by omega, by simp [Env.keep], by simp, by rw [St.get_put, if_pos rfl], .inl ⟨rfl, by simp⟩, ?_⟩
    exact (hS.new _).step (fun c hc => by rw [St.get_put, if_neg (by have := hS.n; omega)]) (by simp) rfl (fun c hc => by simp at hc; rw [St.get_put, if_neg (by omega), St.get_new, if_neg (by omega)]; exact hS.f c (by omega))
  intro m e t hIt
  rw [hI] at hIt
  obtain ⟨i, y, rfl, hi, hi2, rfl, hnt, h5, hloc, hB⟩ := hIt
  have hc5 : t.cells S.next = some [.bool true, .nils, y] := by unfold St.cells; rw [h5]
  have hpt : Strs t p ps := hp.kept hf hB.k
  rw [wc_assoc, wc_sr]; simp -implicitDefEqProofs [kd39, at3, hB.mc]
  by_cases hlt : (i : Int) < L
  · simp -implicitDefEqProofs [hlt]
    by_cases hlt2 : i < 1000
    · rw [wc_sct (by simp; omega), wc_ss, wc_sb, wc_sr]; simp -implicitDefEqProofs
      rw [wc_assoc, wc_sr]; simp -implicitDefEqProofs
      by_cases h0 : i = 0
      · rw [wc_sct (by simp [h0]), wc_sr]; simp -implicitDefEqProofs
        have hget : full[i]? = some cl := by rw [← hfull0, h0]; rfl
        obtain ⟨y', t', ha, hl', hk, hn, hg, hf'⟩ := append14 (n0 := S.next + 1) hB.f hloc (cl) (by simp; omega) (by omega)
        have h5' : t'.ownCells S.next = some [.bool true, .nils, y] := by unfold St.ownCells; rw [hk S.next (by omega), h5]
        rw [WC_reg]; simp -implicitDefEqProofs [kd24, at22, at9, kd22, hc5, ha, h5']
        rw [blk_normal, WC_reg]; simp -implicitDefEqProofs [Env.keep]
        refine ⟨1001 - (i + 1), by omega, ?_⟩
        rw [hI]
        refine ⟨i + 1, y', rfl, by omega, by omega, by rw [wrap_small (by omega) (by omega)]; simp [Env.get], by simp; omega, by rw [St.get_put, if_pos rfl], ?_, ?_⟩
        · have hfull : full.take i ++ [cl] = full.take (i + 1) := by rw [List.take_add_one, hget]; rfl
          rw [hfull] at hl'
          rcases hl' with h | ⟨b, h1, h2, h3, h4⟩
          · exact .inl h
          · refine .inr ⟨b, h1, ?_, h3, by simpa using h4⟩
            unfold OwnS; rw [St.get_put, if_neg (by omega)]; exact h2
        · have hB' := hB.step (fun c hc => hk c (by have := hS.n; omega)) hn hg hf'
          exact hB'.step (fun c hc => by rw [St.get_put, if_neg (by have := hS.n; omega)]) (by simp) rfl (fun c hc => by simp at hc; rw [St.get_put, if_neg (by omega)]; exact hf' c hc)
      · rw [wc_scf (by simp; omega), wc_assoc, wc_sr]; simp -implicitDefEqProofs [kd39, at22, hB.mc, lenA_sl (T := tys) (s := t) (t := 22) (e := 9) (x := p) rfl hpt.len]
        by_cases hps2 : i ≤ ps.length
        · obtain ⟨bp, op, hi1, hi2'⟩ := hpt.at (i := i - 1) (by omega)
          simp at hi1 hi2'
          have hw : IntKind.i64.wrap ((i : Int) - 1) = ((i - 1 : Nat) : Int) := by rw [wrap_small (by omega) (by omega)]; omega
          rw [wc_sct (by simp; omega), wc_sr]; simp -implicitDefEqProofs [kd39, at22, hB.mc, hw, hi1, hi2']
          have hget : full[i]? = some (ps[i - 1]'(by omega)) := (congrArg (fun l => l[i]?) hfull0).symm.trans (by
            show (cl :: ps ++ List.replicate 1000 ([] : List UInt8))[i]? = _
            obtain ⟨q, rfl⟩ : ∃ q, i = q + 1 := ⟨i - 1, by omega⟩
            simp only [List.cons_append, List.getElem?_cons_succ]
            rw [List.getElem?_append_left (by omega), List.getElem?_eq_getElem (by omega)]; rfl)
          obtain ⟨y', t', ha, hl', hk, hn, hg, hf'⟩ := append14 (n0 := S.next + 1) hB.f hloc (ps[i - 1]'(by omega)) (by simp; omega) (by omega)
          have h5' : t'.ownCells S.next = some [.bool true, .nils, y] := by unfold St.ownCells; rw [hk S.next (by omega), h5]
          rw [WC_reg]; simp -implicitDefEqProofs [kd24, at22, at9, kd22, hc5, ha, h5']
          rw [blk_normal, WC_reg]; simp -implicitDefEqProofs [Env.keep]
          refine ⟨1001 - (i + 1), by omega, ?_⟩
          rw [hI]
          refine ⟨i + 1, y', rfl, by omega, by omega, by rw [wrap_small (by omega) (by omega)]; simp [Env.get], by simp; omega, by rw [St.get_put, if_pos rfl], ?_, ?_⟩
          · have hfull : full.take i ++ [ps[i - 1]'(by omega)] = full.take (i + 1) := by rw [List.take_add_one, hget]; rfl
            rw [hfull] at hl'
            rcases hl' with h | ⟨b, h1, h2, h3, h4⟩
            · exact .inl h
            · refine .inr ⟨b, h1, ?_, h3, by simpa using h4⟩
              unfold OwnS; rw [St.get_put, if_neg (by omega)]; exact h2
          · have hB' := hB.step (fun c hc => hk c (by have := hS.n; omega)) hn hg hf'
            exact hB'.step (fun c hc => by rw [St.get_put, if_neg (by have := hS.n; omega)]) (by simp) rfl (fun c hc => by simp at hc; rw [St.get_put, if_neg (by omega)]; exact hf' c hc)
        · rw [wc_scf (by simp; omega), wc_ss]
          have hget : full[i]? = some [] := by
            rw [← hfull0]
            obtain ⟨q, rfl⟩ : ∃ q, i = q + 1 := ⟨i - 1, by omega⟩
            simp only [List.cons_append, List.getElem?_cons_succ]
            rw [List.getElem?_append_right (by omega), List.getElem?_replicate, if_pos (by omega)]
          obtain ⟨y', t', ha, hl', hk, hn, hg, hf'⟩ := append14 (n0 := S.next + 1) hB.f hloc ([]) (by simp; omega) (by omega)
          have h5' : t'.ownCells S.next = some [.bool true, .nils, y] := by unfold St.ownCells; rw [hk S.next (by omega), h5]
          rw [WC_reg]; simp -implicitDefEqProofs [kd24, at22, at9, kd22, hc5, ha, h5']
          rw [blk_normal, WC_reg]; simp -implicitDefEqProofs [Env.keep]
          refine ⟨1001 - (i + 1), by omega, ?_⟩
          rw [hI]
          refine ⟨i + 1, y', rfl, by omega, by omega, by rw [wrap_small (by omega) (by omega)]; simp [Env.get], by simp; omega, by rw [St.get_put, if_pos rfl], ?_, ?_⟩
          · have hfull : full.take i ++ [[]] = full.take (i + 1) := by rw [List.take_add_one, hget]; rfl
            rw [hfull] at hl'
            rcases hl' with h | ⟨b, h1, h2, h3, h4⟩
            · exact .inl h
            · refine .inr ⟨b, h1, ?_, h3, by simpa using h4⟩
              unfold OwnS; rw [St.get_put, if_neg (by omega)]; exact h2
          · have hB' := hB.step (fun c hc => hk c (by have := hS.n; omega)) hn hg hf'
            exact hB'.step (fun c hc => by rw [St.get_put, if_neg (by have := hS.n; omega)]) (by simp) rfl (fun c hc => by simp at hc; rw [St.get_put, if_neg (by omega)]; exact hf' c hc)
    · rw [wc_scf (by simp; omega), wc_sexit]
      show BlkK _ _ 0 _ _ (.exit 0) _ _
      rw [blk_exit, wc_sr]; simp -implicitDefEqProofs [at24, hc5, hB.zo]
      rw [WC_ret]
      omega
  · simp -implicitDefEqProofs [hlt]
    rw [wc_scf (by simp), wc_sexit]
    show BlkK _ _ 0 _ _ (.exit 0) _ _
    rw [blk_exit, wc_sr]; simp -implicitDefEqProofs [at24, hc5, hB.zo]
    rw [WC_ret]
    simp -implicitDefEqProofs [Ends, resA, resAll, resOne, at24, cells_put_eq]
    have hiL : i = L.toNat := by omega
    subst hiL
    refine ⟨Loc14.strs (n0 := S.next + 1) ?_, ⟨hB.k.gl, fun c hc => by rw [St.get_put, if_neg (by omega)]; exact hB.k.old c hc, hB.k.next⟩⟩
    rcases hloc with h | ⟨b, h1, h2, h3, h4⟩
    · exact .inl h
    · refine .inr ⟨b, h1, ?_, h3, by simpa using h4⟩
      have := hS.n
      unfold OwnS; rw [St.get_put, if_neg (by omega)]; exact h2
end Go.Proofs.YtijkkgloennglaaGreatDoor.Ab
