/-
  Regions whose order is open: one order of them speaks for all: the proof. No condition.
-/
import Derived.Test.YtijkkgloennglaaGreatDoorFw10
set_option linter.all false
namespace Go.Proofs.YtijkkgloennglaaGreatDoor.Ab
open Go Go.RowKit

def LL (L : Array Bool) (i : Nat) : Prop := L.getD i false = true
def pendB (N : Nat) (ops : Array Oper) (L : Array Bool) (D : List Nat) (t : Tmp) : Bool := D.any fun i => !L.getD i false && (riD N ops i).dst == some t

def Pend (T : Tys) (lo : Nat) (r : RI) (e : Env) (s : St) (μ : Mu) : Option Nat → Prop
  | none => (guardOk r.g e = some false ∧ ∀ t, r.dst = some t → e.get t = some (.tup [])) ∨
      (guardOk r.g e = some true ∧ (clsOf r.op = .pure ∨ clsOf r.op = .read) ∧ ∃ x, stepOp T r.op e s = some (x, s) ∧ ∀ t, r.dst = some t → e.get t = some x)
  | some n => guardOk r.g e = some true ∧ clsOf r.op = .alloc ∧ ∃ f k, allocA T s.gl r.op e = some (f, k) ∧ (∀ t, r.dst = some t → e.get t = some (f n)) ∧ lo ≤ n ∧ n < s.next ∧ μ n = none ∧ s.get n = some ⟨true, k⟩

structure Inv (T : Tys) (N : Nat) (ops : Array Oper) (base : Nat) (μ₀ : Mu) (s₀ : St) (w₀ : World) (L : Array Bool) (D : List Nat) (e : Env) (s : St) (a : Act) (w : World) (μ : Mu) (nm : Nat → Option Nat) : Prop where
  hL : ∀ i, LL L i → i ∈ D ∧ ∀ p ∈ predsOf ops i, LL L p
  loud : ∀ i ∈ D, loudI N ops i = true → LL L i
  hD : ∀ i ∈ D, i < ops.size
  topo : ∀ (k i : Nat), D[k]? = some i → ∀ p ∈ predsOf ops i, ∃ k', k' < k ∧ D[k']? = some p
  size : L.size = ops.size
  env : VEnv μ (e.wo (pendB N ops L D)) a.tmps
  pend : ∀ i ∈ D, ¬ LL L i → Pend T s₀.next (riD N ops i) e s μ (nm i)
  inj : ∀ i j n, i ∈ D → j ∈ D → ¬ LL L i → ¬ LL L j → nm i = some n → nm j = some n → i = j
  rel : Rel base μ s w.heap
  grow : Grow base μ₀ s₀ w₀ μ s w
  defers : a.defers = []
  tsize : a.tmps.size = N

section
variable {P : Program} {T : Tys} {N : Nat} {ops : Array Oper} {base : Nat} {μ₀ : Mu} {s₀ : St} {w₀ : World} {L : Array Bool} {D : List Nat} {e : Env} {s : St} {a : Act} {w : World} {μ : Mu} {nm : Nat → Option Nat}

theorem drawOk_spec (h : drawOk N ops = true) {i : Nat} (hi : i < ops.size) : riOf N ops i = some (riD N ops i) ∧ (∀ p ∈ predsOf ops i, p < ops.size) ∧
    ∀ j, j < ops.size → (j ≠ i → ∀ t, (riD N ops i).dst = some t → (riD N ops j).dst ≠ some t) ∧ (∀ t, (riD N ops j).dst = some t → t ∈ lookOf (riD N ops i) → j ∈ predsOf ops i ∨ i ∈ ancs ops ops.size j) := by
  simp only [drawOk, Bool.and_eq_true, List.all_eq_true, List.mem_range, Bool.or_eq_true, beq_iff_eq, bne_iff_ne, decide_eq_true_eq, Bool.not_eq_true', List.contains_iff_mem] at h
  obtain ⟨⟨h1, h2⟩, h3⟩ := h.1 i hi
  refine ⟨?_, h2, fun j hj => ⟨fun hne t ht hj' => ?_, fun t ht hlook => ?_⟩⟩
  · cases hr : riOf N ops i with
    | none => simp [hr] at h1
    | some r => simp [riD, hr]
  · rcases (h3 j hj).1 with (h4 | h4) | h4
    · exact hne h4
    · rw [ht] at h4; cases h4
    · exact h4 (by rw [ht, hj'])
  · rcases (h3 j hj).2 with (h4 | h4) | h4
    · rw [ht] at h4; simp [dstIn] at h4; exact absurd hlook h4
    · exact .inl h4
    · exact .inr h4

theorem loudI_quiet {i j : Nat} (hq : loudI N ops i = false) (hj : j < ops.size) {t : Tmp} (ht : (riD N ops i).dst = some t) (hl : t ∈ lookOf (riD N ops j)) : i ∈ predsOf ops j := by
  simp only [loudI, Bool.or_eq_false_iff, List.any_eq_false, List.mem_range] at hq
  have := hq.2 j hj
  rw [ht] at this
  simpa [dstIn, hl] using this
theorem loudI_op {i : Nat} (hq : loudI N ops i = false) : clsOf (riD N ops i).op ≠ .loud := by
  simp only [loudI, Bool.or_eq_false_iff] at hq
  have := hq.1
  simp [quietB] at this
  exact this
theorem loudI_of {i j : Nat} (hj : j < ops.size) {t : Tmp} (ht : (riD N ops i).dst = some t) (hl : t ∈ lookOf (riD N ops j)) (hn : i ∉ predsOf ops j) : loudI N ops i = true := by
  cases h : loudI N ops i with
  | true => rfl
  | false => exact absurd (loudI_quiet h hj ht hl) hn

theorem Inv.down (I : Inv T N ops base μ₀ s₀ w₀ L D e s a w μ nm) {i p : Nat} (hi : i ∈ D) (hp : p ∈ predsOf ops i) : p ∈ D := by
  obtain ⟨k, hk, rfl⟩ := List.getElem_of_mem hi
  obtain ⟨k', _, h2⟩ := I.topo k _ (List.getElem?_eq_getElem hk) p hp
  exact List.mem_of_getElem? h2

/-- what an operation looks at that may go now is laid -/
theorem Inv.look (I : Inv T N ops base μ₀ s₀ w₀ L D e s a w μ nm) {i : Nat} (hi : i < ops.size) (hp : ∀ p ∈ predsOf ops i, LL L p) {t : Tmp} (ht : t ∈ lookOf (riD N ops i)) : (e.wo (pendB N ops L D)).get t = e.get t := by
  rw [Env.get_wo, if_neg]
  intro hpd
  simp only [pendB, List.any_eq_true, Bool.and_eq_true, Bool.not_eq_true', beq_iff_eq] at hpd
  obtain ⟨j, hj, hnl, hdst⟩ := hpd
  have hjs := I.hD j hj
  have hnot : ¬ LL L j := by unfold LL; rw [hnl]; simp
  by_cases hjp : j ∈ predsOf ops i
  · exact hnot (hp j hjp)
  · exact hnot (I.loud j hj (loudI_of hi hdst ht hjp))

theorem guardOk_congr {g : Option (Tmp × Bool)} {e e' : Env} (h : ∀ t b, g = some (t, b) → e.get t = e'.get t) : guardOk g e = guardOk g e' := by
  cases g with
  | none => rfl
  | some p => obtain ⟨t, b⟩ := p; simp only [guardOk]; rw [h t b rfl]
theorem look_op {r : RI} {t : Tmp} (h : t ∈ opTmps r.op) : t ∈ lookOf r := List.mem_append_left _ h
theorem look_g {r : RI} {t : Tmp} {b : Bool} (h : r.g = some (t, b)) : t ∈ lookOf r := by unfold lookOf; rw [h]; simp

theorem LL_set {i j : Nat} (hi : i < L.size) : LL (L.setIfInBounds i true) j ↔ j = i ∨ LL L j := by
  unfold LL
  by_cases h : i = j
  · subst h; simp [hi]
  · simp only [Array.getD_eq_getD_getElem?, Array.getElem?_setIfInBounds_ne h]
    constructor
    · exact .inr
    · rintro (rfl | h'); exact absurd rfl h; exact h'

/-- the environment behind an operation that was still to go -/
theorem env_now (I : Inv T N ops base μ₀ s₀ w₀ L D e s a w μ nm) (hd : drawOk N ops = true) {i : Nat} (hiD : i ∈ D) {μ' : Mu} (hle : μ.le μ') {x : TV} {v : Value} (hv : VT μ' x v) (hx : ∀ t, (riD N ops i).dst = some t → e.get t = some x) :
    VEnv μ' (e.wo (pendB N ops (L.setIfInBounds i true) D)) (a.put (riD N ops i).dst v).tmps := by
  have his := I.hD i hiD
  obtain ⟨hr, _, hj⟩ := drawOk_spec hd his
  obtain ⟨o, ho, _, _, _, _, hN⟩ := riOf_spec hr
  intro t y hy
  rw [Env.get_wo] at hy
  split at hy
  · cases hy
  · rename_i hp
    by_cases hdt : (riD N ops i).dst = some t
    · rw [hx t hdt] at hy; cases hy
      rw [hdt]
      have := hN t hdt
      exact ⟨v, by simp [Act.put, I.tsize, this], hv⟩
    · have hpt : pendB N ops L D t = false := by
        cases hb : pendB N ops L D t with
        | false => rfl
        | true =>
          exfalso; apply hp
          simp only [pendB, List.any_eq_true, Bool.and_eq_true, Bool.not_eq_true', beq_iff_eq] at hb ⊢
          obtain ⟨j, h1, h2, h3⟩ := hb
          refine ⟨j, h1, ?_, h3⟩
          have hne : i ≠ j := by rintro rfl; exact hdt h3
          simpa [Array.getElem?_setIfInBounds_ne hne] using h2
      obtain ⟨u, h1, h2⟩ := I.env t y (by rw [Env.get_wo, hpt]; simpa using hy)
      refine ⟨u, ?_, h2.mono hle⟩
      cases hdd : (riD N ops i).dst with
      | none => exact h1
      | some d =>
        have hne : d ≠ t := by rintro rfl; exact hdt hdd
        simp [Act.put, Array.getElem?_setIfInBounds_ne hne, h1]

theorem Pend.mono {lo : Nat} {r : RI} {o : Option Nat} {μ' : Mu} (h : Pend T lo r e s μ o) (hm : ∀ n, o = some n → μ n = none → μ' n = none) : Pend T lo r e s μ' o := by
  cases o with
  | none => exact h
  | some n =>
    obtain ⟨h1, h2, f, k, h3, h4, h5, h6, h7, h8⟩ := h
    exact ⟨h1, h2, f, k, h3, h4, h5, h6, hm n rfl h7, h8⟩

/-- an operation that was still to go, goes -/
theorem Inv.exec (hT : tysB P T = true) (I : Inv T N ops base μ₀ s₀ w₀ L D e s a w μ nm) (hd : drawOk N ops = true) {i : Nat} (hiD : i ∈ D) (hn : ¬ LL L i) (hp : ∀ p ∈ predsOf ops i, LL L p) {Q : Exit → Act → World → Prop} {K : Act → World → Prop}
    (hK : ∀ a' w' μ', Inv T N ops base μ₀ s₀ w₀ (L.setIfInBounds i true) D e s a' w' μ' nm → K a' w') : wpOp P ops Q i K a w := by
  have his := I.hD i hiD
  obtain ⟨hr, _, _⟩ := drawOk_spec hd his
  obtain ⟨o, ho, hg, hdst, hop, _, hN⟩ := riOf_spec hr
  have hil : i < L.size := by rw [I.size]; exact his
  have hlook := fun t ht => I.look his hp (t := t) ht
  have hgo : guardOk (riD N ops i).g (e.wo (pendB N ops L D)) = guardOk (riD N ops i).g e := guardOk_congr fun t b hb => hlook t (look_g hb)
  have inv : ∀ (a' : Act) (w' : World) (μ' : Mu), a'.defers = [] → a'.tmps.size = N → VEnv μ' (e.wo (pendB N ops (L.setIfInBounds i true) D)) a'.tmps → Rel base μ' s w'.heap → Grow base μ₀ s₀ w₀ μ' s w' →
      (∀ j ∈ D, j ≠ i → ¬ LL L j → ∀ n, nm j = some n → μ n = none → μ' n = none) → Inv T N ops base μ₀ s₀ w₀ (L.setIfInBounds i true) D e s a' w' μ' nm := by
    intro a' w' μ' h1 h2 h3 h4 h5 h6
    refine ⟨fun j hj => ?_, fun j hj hl => (LL_set hil).2 (.inr (I.loud j hj hl)), I.hD, I.topo, by rw [Array.size_setIfInBounds]; exact I.size, h3, fun j hj hnl => ?_, fun j k n hj hk hnj hnk => ?_, h4, h5, h1, h2⟩
    · rcases (LL_set hil).1 hj with rfl | hj
      · exact ⟨hiD, fun p hpp => (LL_set hil).2 (.inr (hp p hpp))⟩
      · exact ⟨(I.hL j hj).1, fun p hpp => (LL_set hil).2 (.inr ((I.hL j hj).2 p hpp))⟩
    · have hne : j ≠ i := fun e' => hnl ((LL_set hil).2 (.inl e'))
      have hnl' : ¬ LL L j := fun h => hnl ((LL_set hil).2 (.inr h))
      exact (I.pend j hj hnl').mono (h6 j hj hne hnl')
    · exact I.inj j k n hj hk (fun h => hnj ((LL_set hil).2 (.inr h))) (fun h => hnk ((LL_set hil).2 (.inr h)))
  have hpend := I.pend i hiD hn
  unfold wpOp
  simp only [ho]
  cases hnm : nm i with
  | none =>
    rw [hnm] at hpend
    rcases hpend with ⟨g1, g2⟩ | ⟨g1, gc, x, g2, g3⟩
    · rw [guard_sound I.env hg (hgo.trans g1)]
      simp only [Bool.false_eq_true, if_false]
      rw [hdst]
      exact hK _ w μ (inv _ w μ (by rw [put_defers]; exact I.defers) (by rw [put_size]; exact I.tsize) (env_now I hd hiD (.refl μ) (undef_VT μ) g2) I.rel I.grow (fun _ _ _ _ _ _ h => h))
    · rw [guard_sound I.env hg (hgo.trans g1)]
      simp only [if_true]
      left
      have hst : stepOp T o.op (e.wo (pendB N ops L D)) s = some (x, s) := by
        rw [hop, ← g2]
        exact stepOp_congr fun t ht => hlook t (look_op ht)
      obtain ⟨μ1, w1, hrun, hR, hG⟩ := step_sound hT I.rel I.env hst
      have hfin : ∀ v, VT μ1 x v → K (a.put o.dst v) w1 := fun v hv => by
        rw [hdst]
        refine hK _ w1 μ1 (inv _ w1 μ1 (by rw [put_defers]; exact I.defers) (by rw [put_size]; exact I.tsize) (env_now I hd hiD hG.mu hv g3) hR (I.grow.trans hG) (fun j hj hne hnl n hn hμ => ?_))
        have := I.pend j hj hnl
        rw [hn] at this
        obtain ⟨_, _, f, k, _, _, _, hlt, _⟩ := this
        exact (hG.pend n hlt hμ).1
      unfold Oper.wp
      rcases hrun with ⟨v, h1, h2⟩ | ⟨h1, rfl⟩
      · rw [h1]; exact hfin v h2
      · rw [h1]; exact hfin undef (undef_VT _)
  | some n =>
    rw [hnm] at hpend
    obtain ⟨g1, gc, f, k, g2, g3, g4, g5, g6, g7⟩ := hpend
    rw [guard_sound I.env hg (hgo.trans g1)]
    simp only [if_true]
    left
    have hal : allocA T s.gl o.op (e.wo (pendB N ops L D)) = some (f, k) := by
      rw [hop, ← g2]
      exact allocA_congr fun t ht => hlook t (look_op ht)
    obtain ⟨m', e1, ob, F, csz, h1, h2, h3⟩ := allocA_sound hT I.rel I.env hal
    obtain ⟨r1, r2, r3⟩ := I.rel.adopt g5 g6 g7 csz ob (fun h hh => by
      refine h3 _ ?_ h _ hh
      intro b m' hb
      simp only [Mu.set]; rw [if_neg]; exact hb
      rintro rfl; rw [g6] at hb; cases hb)
    unfold Oper.wp
    rw [e1]
    have hrun : (do pure (Next.value (← m')) : Sem Next).run P w = .ok (.value (F w.heap.size)) (w.alloc ob) := by simp [h1 w]
    rw [hrun]
    show K (a.put o.dst (F w.heap.size)) (w.alloc ob)
    rw [hdst]
    refine hK _ _ (μ.set n ⟨w.heap.size, 0, csz⟩) (inv _ _ _ (by rw [put_defers]; exact I.defers) (by rw [put_size]; exact I.tsize) (env_now I hd hiD r2 (h2 _ n _ (by simp [Mu.set])) g3) r1 ?_ ?_)
    · refine ⟨I.grow.mu.trans r2, I.grow.below.trans r3, I.grow.next, fun b hb hm => ?_, I.grow.gl⟩
      obtain ⟨q1, q2⟩ := I.grow.pend b hb hm
      refine ⟨?_, q2⟩
      simp only [Mu.set]; rw [if_neg (by omega)]; exact q1
    · intro j hj hne hnl n' hn' hμ
      simp only [Mu.set]
      rw [if_neg]
      · exact hμ
      · rintro rfl
        exact hne (I.inj j i n' hj hiD hnl hn hn' hnm)
end
end Go.Proofs.YtijkkgloennglaaGreatDoor.Ab
