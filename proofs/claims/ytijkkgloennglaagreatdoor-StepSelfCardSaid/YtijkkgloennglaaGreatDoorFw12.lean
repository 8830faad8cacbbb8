/-
  Regions whose order is open: one order of them speaks for all: the proof's end. No condition.
-/
import Derived.Test.YtijkkgloennglaaGreatDoorFw11
set_option linter.all false
namespace Go.Proofs.YtijkkgloennglaaGreatDoor.Ab
open Go Go.RowKit

section
variable {P : Program} {T : Tys} {N : Nat} {ops : Array Oper} {base : Nat} {μ₀ : Mu} {s₀ : St} {w₀ : World} {L : Array Bool} {D : List Nat} {e : Env} {s : St} {a : Act} {w : World} {μ : Mu} {nm : Nat → Option Nat}

theorem callOf_quiet {o : Op} (h : clsOf o ≠ .loud) : callOf o = none := by
  cases o <;> (try rfl)
  rename_i c
  obtain ⟨callee, args, ts⟩ := c
  cases callee <;> (try rfl)
  exact absurd rfl h

theorem get_put_ne {e : Env} {d : Option Tmp} {x : TV} {t : Tmp} (h : d ≠ some t) : (e.put d x).get t = e.get t := by
  cases d with
  | none => rfl
  | some d => simp only [Env.put, Env.get]; rw [if_neg]; rintro rfl; exact h rfl
theorem get_put_self {e : Env} {d : Option Tmp} {x : TV} {t : Tmp} (h : d = some t) : (e.put d x).get t = some x := by
  subst h; simp [Env.put, Env.get]

/-- what is still to go stays so, if nothing that it looks at turns -/
theorem Pend.keep {lo : Nat} {r : RI} {o : Option Nat} {e' : Env} {s' : St} {μ' : Mu} (h : Pend T lo r e s μ o) (hlook : ∀ t ∈ lookOf r, e'.get t = e.get t) (hdst : ∀ t, r.dst = some t → e'.get t = e.get t) (hgl : s'.gl = s.gl) (hnx : s.next ≤ s'.next)
    (hread : clsOf r.op = .read → guardOk r.g e = some true → ∀ x, readA T r.op e s = some x → readA T r.op e s' = some x) (hal : ∀ n, o = some n → n < s.next → μ n = none → μ' n = none ∧ s'.get n = s.get n) : Pend T lo r e' s' μ' o := by
  have hg : guardOk r.g e' = guardOk r.g e := guardOk_congr fun t b hb => hlook t (look_g hb)
  have hop : ∀ t ∈ opTmps r.op, e'.get t = e.get t := fun t ht => hlook t (look_op ht)
  cases o with
  | none =>
    rcases h with ⟨h1, h2⟩ | ⟨h1, h2, x, h3, h4⟩
    · exact .inl ⟨hg.trans h1, fun t ht => (hdst t ht).trans (h2 t ht)⟩
    · refine .inr ⟨hg.trans h1, h2, x, ?_, fun t ht => (hdst t ht).trans (h4 t ht)⟩
      rw [stepOp_congr hop]
      unfold stepOp at h3 ⊢
      rcases h2 with hc | hc
      · rw [hc] at h3 ⊢
        simp only at h3 ⊢
        rw [hgl]
        split at h3
        · rename_i y hy; cases h3; rfl
        · cases h3
      · rw [hc] at h3 ⊢
        simp only at h3 ⊢
        split at h3
        · rename_i y hy; cases h3; rw [hread hc h1 _ hy]
        · cases h3
  | some n =>
    obtain ⟨h1, h2, f, k, h3, h4, h5, h6, h7, h8⟩ := h
    obtain ⟨q1, q2⟩ := hal n rfl h6 h7
    exact ⟨hg.trans h1, h2, f, k, by rw [hgl, allocA_congr hop]; exact h3, fun t ht => (hdst t ht).trans (h4 t ht), h5, by omega, q1, q2.trans h8⟩

theorem topo_snoc (h : ∀ (k i : Nat), D[k]? = some i → ∀ p ∈ predsOf ops i, ∃ k', k' < k ∧ D[k']? = some p) {i : Nat} (hi : ∀ p ∈ predsOf ops i, p ∈ D) :
    ∀ (k j : Nat), (D ++ [i])[k]? = some j → ∀ p ∈ predsOf ops j, ∃ k', k' < k ∧ (D ++ [i])[k']? = some p := by
  intro k j hk p hp
  by_cases hlt : k < D.length
  · rw [List.getElem?_append_left hlt] at hk
    obtain ⟨k', h1, h2⟩ := h k j hk p hp
    exact ⟨k', h1, by rw [List.getElem?_append_left (by omega)]; exact h2⟩
  · rw [List.getElem?_append_right (by omega)] at hk
    have hk0 : k = D.length := by
      rcases Nat.eq_zero_or_pos (k - D.length) with h0 | h0
      · omega
      · rw [List.getElem?_eq_none (by simp; omega)] at hk; cases hk
    subst hk0
    simp at hk
    subst hk
    obtain ⟨k', hk', rfl⟩ := List.getElem_of_mem (hi p hp)
    exact ⟨k', hk', by rw [List.getElem?_append_left hk']; simp [hk']⟩

theorem pendB_snoc (t : Tmp) (i : Nat) : pendB N ops L (D ++ [i]) t = (pendB N ops L D t || (!L.getD i false && (riD N ops i).dst == some t)) := by
  simp [pendB, List.any_append]

/-- A quiet operation more is done in our order; the model's may come later -/
theorem Inv.quiet (I : Inv T N ops base μ₀ s₀ w₀ L D e s a w μ nm) (hd : drawOk N ops = true) {i : Nat} (hr : i ∈ readyD ops D) (hq : loudI N ops i = false) {Q : Env → St → Prop} {rest : List RI}
    (h : WL P T Q (riD N ops i :: rest) e s) : ∃ e' s' nm', Inv T N ops base μ₀ s₀ w₀ L (D ++ [i]) e' s' a w μ nm' ∧ WL P T Q rest e' s' := by
  obtain ⟨his, hiD, hip⟩ := mem_readyD.1 hr
  obtain ⟨hri, _, hpairs⟩ := drawOk_spec hd his
  obtain ⟨o, ho, hg, hdst, hop, hck, hN⟩ := riOf_spec hri
  have hnl : ¬ LL L i := fun hl => hiD (I.hL i hl).1
  -- nobody that is done looks at what it writes
  have hfree : ∀ j ∈ D, ∀ t, (riD N ops i).dst = some t → t ∉ lookOf (riD N ops j) := fun j hj t ht hl =>
    hiD (I.down hj (loudI_quiet hq (I.hD j hj) ht hl))
  have hself : ∀ t, (riD N ops i).dst = some t → t ∉ lookOf (riD N ops i) := fun t ht hl => hiD (hip i (loudI_quiet hq his ht hl))
  have hdd : ∀ j ∈ D, ∀ t, (riD N ops i).dst = some t → (riD N ops j).dst ≠ some t := fun j hj t ht =>
    (hpairs j (I.hD j hj)).1 (by rintro rfl; exact hiD hj) t ht
  have build : ∀ (x : TV) (s' : St) (nmi : Option Nat), s'.gl = s.gl → s.next ≤ s'.next → Rel base μ s' w.heap → Grow base μ₀ s₀ w₀ μ s' w →
      (∀ o x, readA T o e s = some x → readA T o e s' = some x) → (∀ n, n < s.next → s'.get n = s.get n) → (∀ n, nmi = some n → n = s.next) →
      Pend T s₀.next (riD N ops i) (e.put (riD N ops i).dst x) s' μ nmi →
      Inv T N ops base μ₀ s₀ w₀ L (D ++ [i]) (e.put (riD N ops i).dst x) s' a w μ (fun j => if j = i then nmi else nm j) := by
    intro x s' nmi hgl hnx hR hG hread hget hnmi hP
    refine ⟨fun j hj => ⟨List.mem_append_left _ (I.hL j hj).1, (I.hL j hj).2⟩, fun j hj hl => ?_, fun j hj => ?_, topo_snoc I.topo hip, I.size, ?_, fun j hj hnj => ?_, fun j k n hj hk hnj hnk h1 h2 => ?_, hR, hG, I.defers, I.tsize⟩
    · rcases List.mem_append.1 hj with hj | hj
      · exact I.loud j hj hl
      · simp at hj; subst hj; rw [hq] at hl; cases hl
    · rcases List.mem_append.1 hj with hj | hj
      · exact I.hD j hj
      · simp at hj; subst hj; exact his
    · intro t y hy
      rw [Env.get_wo, pendB_snoc] at hy
      split at hy
      · cases hy
      · rename_i hp
        simp only [Bool.or_eq_true, not_or, Bool.not_eq_true] at hp
        have hdt : (riD N ops i).dst ≠ some t := by
          intro hdt
          have h2 := hp.2
          rw [hdt] at h2
          have h3 : L.getD i false = false := by
            cases hb : L.getD i false with
            | false => rfl
            | true => exact absurd hb hnl
          rw [h3] at h2; simp at h2
        rw [get_put_ne hdt] at hy
        exact I.env t y (by rw [Env.get_wo, hp.1]; simpa using hy)
    · by_cases hji : j = i
      · subst hji; simp only [if_true]; exact hP
      · simp only [hji, if_false]
        have hjD : j ∈ D := by
          rcases List.mem_append.1 hj with hj | hj
          · exact hj
          · simp at hj; exact absurd hj hji
        refine (I.pend j hjD hnj).keep (fun t ht => get_put_ne fun hdt => hfree j hjD t hdt ht) (fun t ht => get_put_ne fun hdt => hdd j hjD t hdt ht) hgl hnx (fun _ _ x hx => hread _ _ hx) (fun n hn hlt hm => ⟨hm, hget n hlt⟩)
    · have hcase : ∀ {q : Nat}, q ∈ D ++ [i] → q ≠ i → q ∈ D := fun {q} hq' hne => by
        rcases List.mem_append.1 hq' with h' | h'
        · exact h'
        · simp at h'; exact absurd h' hne
      have hold : ∀ {q n : Nat}, q ∈ D → ¬ LL L q → nm q = some n → n < s.next := fun {q n} hq' hnq hn => by
        have := I.pend q hq' hnq
        rw [hn] at this
        obtain ⟨_, _, _, _, _, _, _, hlt, _⟩ := this
        exact hlt
      by_cases hji : j = i <;> by_cases hki : k = i
      · rw [hji, hki]
      · simp only [hji, if_true] at h1
        simp only [hki, if_false] at h2
        have := hold (hcase hk hki) hnk h2
        have := hnmi n h1
        omega
      · simp only [hji, if_false] at h1
        simp only [hki, if_true] at h2
        have := hold (hcase hj hji) hnj h1
        have := hnmi n h2
        omega
      · simp only [hji, if_false] at h1
        simp only [hki, if_false] at h2
        exact I.inj j k n (hcase hj hji) (hcase hk hki) hnj hnk h1 h2
  have hlk : ∀ x, ∀ t ∈ lookOf (riD N ops i), (e.put (riD N ops i).dst x).get t = e.get t := fun x t ht => get_put_ne fun hdt => hself t hdt ht
  simp only [WL] at h
  cases hgo : guardOk (riD N ops i).g e with
  | none => rw [hgo] at h; exact h.elim
  | some b =>
    rw [hgo] at h
    have hgo' : ∀ x, guardOk (riD N ops i).g (e.put (riD N ops i).dst x) = some b := fun x => (guardOk_congr fun t b hb => hlk x t (look_g hb)).trans hgo
    cases b with
    | false =>
      simp only [hck] at h
      exact ⟨_, s, _, build (.tup []) s none rfl (Nat.le_refl _) I.rel I.grow (fun _ _ h => h) (fun _ _ => rfl) (by simp) (.inl ⟨hgo' _, fun t ht => get_put_self ht⟩), h⟩
    | true =>
      have hcl := loudI_op hq
      simp only [hck, Bool.false_eq_true, if_false, callOf_quiet hcl] at h
      obtain ⟨x, s', hst, hrest⟩ := h
      have hst' := hst
      unfold stepOp at hst
      split at hst
      · rename_i hc
        split at hst
        · rename_i y hy
          cases hst
          refine ⟨_, s, _, build x s none rfl (Nat.le_refl _) I.rel I.grow (fun _ _ h => h) (fun _ _ => rfl) (by simp) (.inr ⟨hgo' _, .inl hc, x, ?_, fun t ht => get_put_self ht⟩), hrest⟩
          rw [stepOp_congr fun t ht => hlk x t (look_op ht)]; exact hst'
        · cases hst
      · rename_i hc
        split at hst
        · rename_i y hy
          cases hst
          refine ⟨_, s, _, build x s none rfl (Nat.le_refl _) I.rel I.grow (fun _ _ h => h) (fun _ _ => rfl) (by simp) (.inr ⟨hgo' _, .inr hc, x, ?_, fun t ht => get_put_self ht⟩), hrest⟩
          rw [stepOp_congr fun t ht => hlk x t (look_op ht)]; exact hst'
        · cases hst
      · rename_i hc
        split at hst
        · rename_i p hp
          cases hst
          have hfr := I.rel.fresh s.next (Nat.le_refl _)
          have hμ : μ s.next = none := by
            cases hm : μ s.next with
            | none => rfl
            | some m => have := (I.rel.dom _ m hm).1; omega
          refine ⟨_, _, _, build (p.1 s.next) (s.new ⟨true, p.2⟩) (some s.next) rfl (by simp) (I.rel.pre _) ?_ (fun o x hx => readA_new hfr _ hx) (fun n hn => by rw [St.get_new, if_neg (by omega)]) (fun n hn => by cases hn; rfl) ?_, hrest⟩
          · exact ⟨I.grow.mu, I.grow.below, by have := I.grow.next; simp; omega, fun b hb hm => by
              obtain ⟨q1, q2⟩ := I.grow.pend b hb hm
              refine ⟨q1, ?_⟩
              have := I.grow.next
              rw [St.get_new, if_neg (by omega)]; exact q2, I.grow.gl⟩
          · exact ⟨hgo' _, hc, p.1, p.2, by rw [St.gl_new, allocA_congr fun t ht => hlk _ t (look_op ht)]; exact hp, fun t ht => get_put_self ht, I.grow.next, by simp, hμ, by simp⟩
        · cases hst
      · rename_i hc; exact absurd hc hcl

/-- what the looks say -/
theorem wl_chks {Q : Env → St → Prop} {rest : List RI} : ∀ (l : List Nat), WL P T Q ((l.map fun j => { riD N ops j with chk := true }) ++ rest) e s →
    (∀ j ∈ l, guardOk (riD N ops j).g e = some true → ∃ x d, (riD N ops j).dst = some d ∧ stepOp T (riD N ops j).op e s = some (x, s) ∧ e.get d = some x) ∧ WL P T Q rest e s
  | [], h => ⟨fun j hj => by simp at hj, h⟩
  | j :: l, h => by
    simp only [List.map_cons, List.cons_append, WL] at h
    cases hgo : guardOk (riD N ops j).g e with
    | none => rw [hgo] at h; exact h.elim
    | some b =>
      rw [hgo] at h
      cases b with
      | false =>
        simp only [if_true] at h
        obtain ⟨h1, h2⟩ := wl_chks l h
        refine ⟨fun k hk hgk => ?_, h2⟩
        rcases List.mem_cons.1 hk with rfl | hk
        · rw [hgo] at hgk; cases hgk
        · exact h1 k hk hgk
      | true =>
        simp only [if_true] at h
        obtain ⟨x, d, h3, h4, h5, h6⟩ := h
        obtain ⟨h1, h2⟩ := wl_chks l h6
        refine ⟨fun k hk hgk => ?_, h2⟩
        rcases List.mem_cons.1 hk with rfl | hk
        · exact ⟨x, d, h3, h4, h5⟩
        · exact h1 k hk hgk

/-- A loud operation goes, in our order and the model's -/
theorem Inv.loudGo (hT : tysB P T = true) (I : Inv T N ops base μ₀ s₀ w₀ L D e s a w μ nm) (hd : drawOk N ops = true) {i : Nat} (hr : i ∈ readyD ops D) (hlo : loudI N ops i = true) (hp : ∀ p ∈ predsOf ops i, LL L p)
    (hc1 : D.all (fun j => (ancs ops ops.size i).contains j || !dstIn (riD N ops i).dst (lookOf (riD N ops j))) = true) {Q : Env → St → Prop} {rest : List RI}
    (h : WL P T Q (riD N ops i :: (chksOf N ops D i ++ rest)) e s) {Q' : Exit → Act → World → Prop} {K : Act → World → Prop}
    (hK : ∀ e' s' a' w' μ', Inv T N ops base μ₀ s₀ w₀ (L.setIfInBounds i true) (D ++ [i]) e' s' a' w' μ' nm → WL P T Q rest e' s' → K a' w') : wpOp P ops Q' i K a w := by
  obtain ⟨his, hiD, hip⟩ := mem_readyD.1 hr
  obtain ⟨hri, _, hpairs⟩ := drawOk_spec hd his
  obtain ⟨o, ho, hg, hdst, hop, hck, hN⟩ := riOf_spec hri
  have hil : i < L.size := by rw [I.size]; exact his
  have hlook := fun t ht => I.look his hp (t := t) ht
  have hgo : guardOk (riD N ops i).g (e.wo (pendB N ops L D)) = guardOk (riD N ops i).g e := guardOk_congr fun t b hb => hlook t (look_g hb)
  have hanc : ∀ j, ¬ LL L j → j ∉ ancs ops ops.size i := fun j hnj hj => hnj (ancs_in (fun q hq => (I.hL q hq).2) ops.size i hp j hj)
  have hdd : ∀ j ∈ D, ∀ t, (riD N ops i).dst = some t → (riD N ops j).dst ≠ some t := fun j hj t ht =>
    (hpairs j (I.hD j hj)).1 (by rintro rfl; exact hiD hj) t ht
  have hfree : ∀ j ∈ D, ¬ LL L j → ∀ t, (riD N ops i).dst = some t → t ∉ lookOf (riD N ops j) := fun j hj hnj t ht hl => by
    have := List.all_eq_true.1 hc1 j hj
    simp only [Bool.or_eq_true, List.contains_iff_mem, Bool.not_eq_true'] at this
    rcases this with h' | h'
    · exact hanc j hnj h'
    · rw [ht] at h'; simp [dstIn] at h'; exact h' hl
  have fin : ∀ (x : TV) (s' : St) (v : Value) (μ' : Mu) (w' : World), VT μ' x v → Rel base μ' s' w'.heap → Grow base μ s w μ' s' w' → WL P T Q (chksOf N ops D i ++ rest) (e.put (riD N ops i).dst x) s' → K (a.put o.dst v) w' := by
    intro x s' v μ' w' hv hR hG hW
    obtain ⟨hch, hrest⟩ := wl_chks _ hW
    rw [hdst]
    refine hK _ s' _ w' μ' ⟨fun j hj => ?_, fun j hj hl => ?_, fun j hj => ?_, topo_snoc I.topo hip, by rw [Array.size_setIfInBounds]; exact I.size, ?_, fun j hj hnj => ?_, fun j k n hj hk hnj hnk h1 h2 => ?_, hR, I.grow.trans hG, by rw [put_defers]; exact I.defers, by rw [put_size]; exact I.tsize⟩ hrest
    · rcases (LL_set hil).1 hj with rfl | hj
      · exact ⟨by simp, fun p hpp => (LL_set hil).2 (.inr (hp p hpp))⟩
      · exact ⟨List.mem_append_left _ (I.hL j hj).1, fun p hpp => (LL_set hil).2 (.inr ((I.hL j hj).2 p hpp))⟩
    · rcases List.mem_append.1 hj with hj | hj
      · exact (LL_set hil).2 (.inr (I.loud j hj hl))
      · simp at hj; subst hj; exact (LL_set hil).2 (.inl rfl)
    · rcases List.mem_append.1 hj with hj | hj
      · exact I.hD j hj
      · simp at hj; subst hj; exact his
    · intro t y hy
      rw [Env.get_wo] at hy
      split at hy
      · cases hy
      · rename_i hpn
        by_cases hdt : (riD N ops i).dst = some t
        · rw [get_put_self hdt] at hy; cases hy
          rw [hdt]
          have := hN t hdt
          exact ⟨v, by simp [Act.put, I.tsize, this], hv⟩
        · rw [get_put_ne hdt] at hy
          have hpt : pendB N ops L D t = false := by
            cases hb : pendB N ops L D t with
            | false => rfl
            | true =>
              exfalso; apply hpn
              simp only [pendB, List.any_eq_true, Bool.and_eq_true, Bool.not_eq_true', beq_iff_eq] at hb ⊢
              obtain ⟨j, h1, h2, h3⟩ := hb
              have hne : i ≠ j := by rintro rfl; exact hdt h3
              exact ⟨j, List.mem_append_left _ h1, by simpa [Array.getElem?_setIfInBounds_ne hne] using h2, h3⟩
          obtain ⟨u, h1, h2⟩ := I.env t y (by rw [Env.get_wo, hpt]; simpa using hy)
          refine ⟨u, ?_, h2.mono hG.mu⟩
          cases hdd' : (riD N ops i).dst with
          | none => exact h1
          | some d =>
            have hne : d ≠ t := by rintro rfl; exact hdt hdd'
            simp [Act.put, Array.getElem?_setIfInBounds_ne hne, h1]
    · have hji : j ≠ i := fun e' => hnj ((LL_set hil).2 (.inl e'))
      have hnj' : ¬ LL L j := fun h => hnj ((LL_set hil).2 (.inr h))
      have hjD : j ∈ D := by
        rcases List.mem_append.1 hj with hj | hj
        · exact hj
        · simp at hj; exact absurd hj hji
      have hlk : ∀ t ∈ lookOf (riD N ops j), (e.put (riD N ops i).dst x).get t = e.get t := fun t ht => get_put_ne fun hdt => hfree j hjD hnj' t hdt ht
      refine (I.pend j hjD hnj').keep hlk (fun t ht => get_put_ne fun hdt => hdd j hjD t hdt ht) hG.gl hG.next (fun hc hgj y hy => ?_) (fun n hn hlt hm => hG.pend n hlt hm)
      have hjc : j ∈ (D.filter fun j => clsOf (riD N ops j).op == .read && !(ancs ops ops.size i).contains j) := by
        refine List.mem_filter.2 ⟨hjD, ?_⟩
        simp only [hc, beq_self_eq_true, Bool.true_and, Bool.not_eq_true', List.contains_eq_mem, decide_eq_false_iff_not]
        exact hanc j hnj'
      obtain ⟨x', d, q1, q2, q3⟩ := hch j hjc ((guardOk_congr fun t b hb => hlk t (look_g hb)).trans hgj)
      have hq3 : e.get d = some x' := by rw [← q3]; exact (get_put_ne fun hdt => hdd j hjD d hdt q1).symm
      have hp0 := I.pend j hjD hnj'
      have hnm0 : nm j = none := by
        cases hnm : nm j with
        | none => rfl
        | some n => rw [hnm] at hp0; obtain ⟨_, hca, _⟩ := hp0; rw [hc] at hca; cases hca
      rw [hnm0] at hp0
      rcases hp0 with ⟨g1, _⟩ | ⟨_, _, x0, g2, g3⟩
      · rw [hgj] at g1; cases g1
      · have e0 : x0 = x' := Option.some.inj ((g3 d q1).symm.trans hq3)
        subst e0
        unfold stepOp at g2 q2
        rw [hc] at g2 q2
        simp only at g2 q2
        rw [hy] at g2
        cases g2
        split at q2
        · rename_i z hz
          cases q2
          rw [← readA_congr fun t ht => hlk t (look_op ht)]; exact hz
        · cases q2
    · have hcase : ∀ {q : Nat}, q ∈ D ++ [i] → ¬ LL (L.setIfInBounds i true) q → q ∈ D ∧ ¬ LL L q := fun {q} hq' hnq => by
        refine ⟨?_, fun h => hnq ((LL_set hil).2 (.inr h))⟩
        rcases List.mem_append.1 hq' with h' | h'
        · exact h'
        · simp at h'; exact absurd ((LL_set hil).2 (.inl h')) hnq
      exact I.inj j k n (hcase hj hnj).1 (hcase hk hnk).1 (hcase hj hnj).2 (hcase hk hnk).2 h1 h2
  simp only [WL] at h
  unfold wpOp
  simp only [ho]
  cases hgo1 : guardOk (riD N ops i).g e with
  | none => rw [hgo1] at h; exact h.elim
  | some b =>
    rw [hgo1] at h
    rw [guard_sound I.env hg (hgo.trans hgo1)]
    cases b with
    | false =>
      simp only [hck] at h
      exact fin (.tup []) s undef μ w (undef_VT μ) I.rel (.refl _ _ _ _) h
    | true =>
      simp only [hck, Bool.false_eq_true, if_false] at h
      simp only [if_true]
      left
      unfold Oper.wp
      split at h
      · rename_i f args hcall
        obtain ⟨fid, ps, qs, xs, c1, c2, c3⟩ := h
        have hopt : ∀ t ∈ opTmps (riD N ops i).op, (e.wo (pendB N ops L D)).get t = e.get t := fun t ht => hlook t (look_op ht)
        have hcallops : ∀ t, Operand.tmp t = f ∨ Operand.tmp t ∈ args.toList → t ∈ opTmps (riD N ops i).op := by
          intro t ht
          revert hcall
          cases hoo : (riD N ops i).op <;> simp only [callOf] <;> (try (intro hcall; cases hcall; done))
          rename_i c
          obtain ⟨callee, cargs, ts⟩ := c
          cases callee <;> simp only <;> (try (intro hcall; cases hcall; done))
          intro hcall
          simp only [Option.some.injEq, Prod.mk.injEq] at hcall
          obtain ⟨rfl, rfl⟩ := hcall
          apply mem_opTmps
          simp only [Op.operands, Call.operands]
          rcases ht with rfl | ht
          · simp
          · simp at ht ⊢; exact .inr ht
        have c1' : opd s.gl (e.wo (pendB N ops L D)) f = some (.v (.fn fid ps qs)) := by
          rw [← c1]; exact opd_congr fun t ht => hopt t (hcallops t (.inl ht.symm))
        have c2' : opds s.gl (e.wo (pendB N ops L D)) args.toList = some xs := by
          rw [← c2]; exact opds_congr fun t ht => hopt t (hcallops t (.inr ht))
        obtain ⟨vs, v1, v2⟩ := call_run I.rel I.env (o := o) (by rw [hop]; exact hcall) c1' c2' c3.1
        rw [v2]
        simp only [Oper.upon]
        refine (c3.2 base μ w vs I.rel v1).mono ?_
        rintro en w' ⟨v, x, s1, μ1, rfl, x1, x2, x3, x4⟩
        exact fin x s1 v μ1 w' x1 x3 x4 x2
      · obtain ⟨x, s1, c1, c2⟩ := h
        have hst : stepOp T o.op (e.wo (pendB N ops L D)) s = some (x, s1) := by
          rw [hop, ← c1]
          exact stepOp_congr fun t ht => hlook t (look_op ht)
        obtain ⟨μ1, w1, hrun, hR, hG⟩ := step_sound hT I.rel I.env hst
        rcases hrun with ⟨v, g1, g2⟩ | ⟨g1, rfl⟩
        · rw [g1]; exact fin x s1 v μ1 w1 g2 hR hG c2
        · rw [g1]; exact fin (.tup []) s1 undef μ1 w1 (undef_VT _) hR hG c2

def left (ops : Array Oper) (L : Array Bool) : Nat := ((List.range ops.size).filter fun i => !L.getD i false).length
theorem filter_lt {l : List Nat} {p q : Nat → Bool} (h : ∀ x, q x = true → p x = true) : ∀ {i : Nat}, i ∈ l → p i = true → q i = false → (l.filter q).length < (l.filter p).length := by
  have hle : ∀ l : List Nat, (l.filter q).length ≤ (l.filter p).length := by
    intro l
    induction l with
    | nil => simp
    | cons x l ih =>
      by_cases hq : q x = true
      · simp [hq, h x hq]; exact ih
      · by_cases hp : p x = true
        · simp [hq, hp]; omega
        · simp [hq, hp]; exact ih
  induction l with
  | nil => intro i hi; simp at hi
  | cons x l ih =>
    intro i hi hp hq
    rcases List.mem_cons.1 hi with rfl | hi
    · have := hle l
      simp [hp, hq]; omega
    · have := ih hi hp hq
      by_cases hqx : q x = true
      · simp [hqx, h x hqx]; exact this
      · by_cases hpx : p x = true
        · simp [hqx, hpx]; omega
        · simp [hqx, hpx]; exact this
theorem left_set {i : Nat} (hi : i < ops.size) (hL : L.size = ops.size) (hn : ¬ LL L i) : left ops (L.setIfInBounds i true) < left ops L := by
  refine filter_lt (i := i) (fun x hx => ?_) (List.mem_range.2 hi) ?_ ?_
  · cases hb : L.getD x false with
    | false => rfl
    | true =>
      have := (LL_set (L := L) (i := i) (j := x) (by omega)).2 (.inr hb)
      unfold LL at this
      rw [this] at hx; cases hx
  · cases hb : L.getD i false with
    | false => rfl
    | true => exact absurd hb hn
  · have := (LL_set (L := L) (i := i) (j := i) (by omega)).2 (.inl rfl)
    unfold LL at this
    rw [this]; rfl

/-- our order has gone as far as it can without the model's -/
def Sat (N : Nat) (ops : Array Oper) (D od : List Nat) : Prop := ordOk N ops D od = true ∧ (od = [] ∨ ∃ i od', od = i :: od' ∧ loudI N ops i = true)

theorem Inv.advance (hd : drawOk N ops = true) {Q : Env → St → Prop} : ∀ (od D : List Nat) (e : Env) (s : St) (nm : Nat → Option Nat), Inv T N ops base μ₀ s₀ w₀ L D e s a w μ nm → ordOk N ops D od = true → WL P T Q (planGo N ops D od) e s →
    ∃ od' D' e' s' nm', Inv T N ops base μ₀ s₀ w₀ L D' e' s' a w μ nm' ∧ Sat N ops D' od' ∧ WL P T Q (planGo N ops D' od') e' s'
  | [], D, e, s, nm, I, ho, h => ⟨[], D, e, s, nm, I, ⟨ho, .inl rfl⟩, h⟩
  | i :: od, D, e, s, nm, I, ho, h => by
    cases hl : loudI N ops i with
    | true => exact ⟨i :: od, D, e, s, nm, I, ⟨ho, .inr ⟨i, od, rfl, hl⟩⟩, h⟩
    | false =>
      simp only [ordOk, Bool.and_eq_true, List.contains_iff_mem] at ho
      simp only [planGo, hl, Bool.false_eq_true, if_false, List.nil_append] at h
      obtain ⟨e', s', nm', I', h'⟩ := I.quiet hd ho.1.1 hl h
      exact Inv.advance hd od (D ++ [i]) e' s' nm' I' ho.2 h'

theorem mem_ready' {i : Nat} : i ∈ Region.ready .any ops L ↔ L.getD i true = false ∧ i < ops.size ∧ ∀ p ∈ predsOf ops i, LL L p := by
  rw [mem_ready]
  unfold predsOf binding LL
  constructor
  · rintro ⟨h1, o, ho, h2⟩
    refine ⟨h1, (Array.getElem?_eq_some_iff.1 ho).1, fun p hp => ?_⟩
    rw [ho] at hp
    simp only [List.mem_map, List.mem_filter, Array.mem_toList_iff] at hp
    obtain ⟨ed, ⟨h3, h4⟩, rfl⟩ := hp
    exact h2 ed h3 h4
  · rintro ⟨h1, h2, h3⟩
    refine ⟨h1, ops[i], Array.getElem?_eq_getElem h2, fun ed he hb => ?_⟩
    apply h3
    rw [Array.getElem?_eq_getElem h2]
    simp only [List.mem_map, List.mem_filter, Array.mem_toList_iff]
    exact ⟨ed, ⟨he, hb⟩, rfl⟩
theorem getD_LL {i : Nat} (hi : i < L.size) : L.getD i true = false ↔ ¬ LL L i := by
  unfold LL
  simp [Array.getD_eq_getD_getElem?, hi]

/-- nothing may go: nothing is left -/
theorem Inv.nothing (I : Inv T N ops base μ₀ s₀ w₀ L D e s a w μ nm) (h : ∀ i, i < ops.size → ¬ LL L i → ¬ ∀ p ∈ predsOf ops i, LL L p) : ∀ i ∈ D, LL L i := by
  have key : ∀ (k i : Nat), D[k]? = some i → LL L i := by
    intro k
    induction k using Nat.strongRecOn with
    | _ k ih =>
      intro i hi
      refine Classical.byContradiction fun hn => ?_
      refine h i (I.hD i (List.mem_of_getElem? hi)) hn fun p hp => ?_
      obtain ⟨k', h1, h2⟩ := I.topo k i hi p hp
      exact ih k' h1 p h2
  intro i hi
  obtain ⟨k, hk, rfl⟩ := List.getElem_of_mem hi
  exact key k _ (List.getElem?_eq_getElem hk)

theorem Inv.done (I : Inv T N ops base μ₀ s₀ w₀ L D e s a w μ nm) {od : List Nat} (hS : Sat N ops D od) {Q : Env → St → Prop} (hW : WL P T Q (planGo N ops D od) e s) (h : ∀ i, i < ops.size → ¬ LL L i → ¬ ∀ p ∈ predsOf ops i, LL L p) :
    PB base μ₀ s₀ w₀ N Q a w := by
  have hall := I.nothing h
  obtain ⟨ho, rfl | ⟨i, od', rfl, hl⟩⟩ := hS
  · refine ⟨I.defers, I.tsize, e, s, μ, hW, fun t x hx => ?_, I.rel, I.grow⟩
    refine I.env t x ?_
    rw [Env.get_wo, if_neg]
    · exact hx
    · intro hp
      simp only [pendB, List.any_eq_true, Bool.and_eq_true, Bool.not_eq_true'] at hp
      obtain ⟨j, hj, hn, _⟩ := hp
      have := hall j hj
      unfold LL at this
      rw [this] at hn; cases hn
  · simp only [ordOk, Bool.and_eq_true, List.contains_iff_mem] at ho
    obtain ⟨h1, h2, h3⟩ := mem_readyD.1 ho.1.1
    exact absurd (fun p hp => hall p (h3 p hp)) (h i h1 fun hli => h2 (I.hL i hli).1)

/-- ONE ORDER SPEAKS FOR ALL -/
theorem draw_main (hT : tysB P T = true) (hd : drawOk N ops = true) {Q : Env → St → Prop} {Q' : Exit → Act → World → Prop} (hQ : ∀ a w, PB base μ₀ s₀ w₀ N Q a w → Q' .normal a w) :
    ∀ (fuel : Nat) (L : Array Bool) (D od : List Nat) (e : Env) (s : St) (a : Act) (w : World) (μ : Mu) (nm : Nat → Option Nat), Inv T N ops base μ₀ s₀ w₀ L D e s a w μ nm → Sat N ops D od → WL P T Q (planGo N ops D od) e s → left ops L ≤ fuel →
      wpAny P .any ops Q' fuel L a w
  | 0, L, D, od, e, s, a, w, μ, nm, I, hS, hW, hf => by
    have hall : ∀ i, i < ops.size → LL L i := by
      intro i hi
      refine Classical.byContradiction fun hn => ?_
      have h0 : left ops L = 0 := by omega
      unfold left at h0
      have hm : i ∈ (List.range ops.size).filter fun i => !L.getD i false := List.mem_filter.2 ⟨List.mem_range.2 hi, by
        cases hb : L.getD i false with
        | false => rfl
        | true => exact absurd hb hn⟩
      rw [List.length_eq_zero_iff.1 h0] at hm
      simp at hm
    refine ⟨?_, hQ a w (I.done hS hW fun i hi hn => absurd (hall i hi) hn)⟩
    apply List.eq_nil_iff_forall_not_mem.2
    intro i hi
    obtain ⟨h1, h2, _⟩ := mem_ready'.1 hi
    exact (getD_LL (by rw [I.size]; exact h2)).1 h1 (hall i h2)
  | fuel + 1, L, D, od, e, s, a, w, μ, nm, I, hS, hW, hf => by
    refine ⟨fun hr => hQ a w (I.done hS hW fun i hi hn hp => ?_), fun i hi => ?_⟩
    · have : i ∈ Region.ready .any ops L := mem_ready'.2 ⟨(getD_LL (by rw [I.size]; exact hi)).2 hn, hi, hp⟩
      rw [hr] at this; simp at this
    · obtain ⟨h1, h2, h3⟩ := mem_ready'.1 hi
      have hn := (getD_LL (by rw [I.size]; exact h2)).1 h1
      have hlt := left_set h2 I.size hn
      by_cases hiD : i ∈ D
      · exact I.exec hT hd hiD hn h3 fun a' w' μ' I' => draw_main hT hd hQ fuel _ D od e s a' w' μ' nm I' hS hW (by omega)
      · have hrd : i ∈ readyD ops D := mem_readyD.2 ⟨h2, hiD, fun p hp => (I.hL p (h3 p hp)).1⟩
        obtain ⟨ho, rfl | ⟨u, od', rfl, hl⟩⟩ := hS
        · simp only [ordOk] at ho
          rw [List.isEmpty_iff.1 ho] at hrd; simp at hrd
        · simp only [ordOk, hl, if_true, Bool.and_eq_true, List.contains_iff_mem, beq_iff_eq] at ho
          obtain ⟨⟨ho1, ho2, ho3⟩, ho4⟩ := ho
          rw [ho2] at hrd
          simp at hrd
          subst hrd
          simp only [planGo, hl, if_true] at hW
          refine I.loudGo hT hd ho1 hl h3 ho3 hW fun e' s' a' w' μ' I' hW' => ?_
          obtain ⟨od2, D2, e2, s2, nm2, I2, hS2, hW2⟩ := Inv.advance hd od' _ e' s' nm I' ho4 hW'
          exact draw_main hT hd hQ fuel _ D2 od2 e2 s2 a' w' μ' nm2 I2 hS2 hW2 (by omega)

theorem draw_sound (hT : tysB P T = true) (hm : P.follows .mixedOrders = true) {id : Nat} {rs : List RI} (hpl : planD N ops = some rs) {Q : Env → St → Prop} {Q' : Exit → Act → World → Prop} (hQ : ∀ a w, PB base μ₀ s₀ w₀ N Q a w → Q' .normal a w)
    (hW : WL P T Q rs e s) (hp : PB base μ₀ s₀ w₀ N (fun e' s' => e' = e ∧ s' = s) a w) : (Code.region id ops true).wp P Q' a w := by
  unfold planD at hpl
  split at hpl
  · rename_i hok
    cases hpl
    simp only [Bool.and_eq_true] at hok
    obtain ⟨hd, ho⟩ := hok
    obtain ⟨p1, p2, e', s', μ, ⟨rfl, rfl⟩, p3, p4, p5⟩ := hp
    refine wp_region_any hm ?_
    have hno : ∀ i, ¬ LL (Array.replicate ops.size false) i := fun i => by
      unfold LL
      by_cases hi : i < ops.size <;> simp [hi]
    have I : Inv T N ops base μ s' w (Array.replicate ops.size false) [] e' s' a { w with drawn := w.drawn + 1 } μ (fun _ => none) :=
      ⟨fun i hi => absurd hi (hno i), fun i hi => by simp at hi, fun i hi => by simp at hi, fun k i hi => by simp at hi, by simp, by
        have : e'.wo (pendB N ops (Array.replicate ops.size false) []) = e' := by
          unfold Env.wo
          apply List.filter_eq_self.2
          intro x hx; rfl
        rw [this]; exact p3, fun i hi => by simp at hi, fun i j n hi => by simp at hi, p4, ⟨.refl μ, ⟨rfl, rfl, rfl, Nat.le_refl _, fun _ _ => rfl⟩, Nat.le_refl _, fun _ _ h => ⟨h, rfl⟩, rfl⟩, p1, p2⟩
    obtain ⟨od2, D2, e2, s2, nm2, I2, hS2, hW2⟩ := Inv.advance hd _ _ e' s' _ I ho hW
    refine draw_main hT hd (Q := Q) (fun a1 w1 hp1 => ?_) ops.size _ D2 od2 e2 s2 a _ μ nm2 I2 hS2 hW2 ?_
    · obtain ⟨q1, q2, e3, s3, μ3, q3, q4, q5, q6⟩ := hp1
      exact hQ a1 w1 ⟨q1, q2, e3, s3, μ3, q3, q4, q5, p5.trans q6⟩
    · unfold left
      have := List.length_filter_le (fun i => !(Array.replicate ops.size false).getD i false) (List.range ops.size)
      simpa using this
  · cases hpl
end
end Go.Proofs.YtijkkgloennglaaGreatDoor.Ab
