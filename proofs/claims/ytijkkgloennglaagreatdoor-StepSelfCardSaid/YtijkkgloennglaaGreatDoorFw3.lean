/-
  Each step of the abstract machine is one of the model's. No condition.
-/
import Derived.Test.YtijkkgloennglaaGreatDoorFw2
import Derived.Laws.Append
import Derived.Lib.Strings
import Derived.WalkSpells
set_option linter.all false
namespace Go.Proofs.YtijkkgloennglaaGreatDoor.Ab
open Go Go.RowKit

def VEnv (μ : Mu) (e : Env) (tmps : Array Value) : Prop := ∀ t x, e.get t = some x → ∃ v, tmps[t]? = some v ∧ VT μ x v
theorem VEnv.mono {μ μ' : Mu} (h : μ.le μ') {e : Env} {a : Array Value} (H : VEnv μ e a) : VEnv μ' e a := fun t x hx => let ⟨v, e, r⟩ := H t x hx; ⟨v, e, r.mono h⟩

/-- what a run of the model's, that answers a value, is to the abstract machine -/
def Good (P : Program) (base : Nat) (μ : Mu) (s : St) (w : World) (m : Sem Value) (x : TV) (s' : St) : Prop :=
  ∃ μ' w' v, m.run P w = .ok v w' ∧ VT μ' x v ∧ Rel base μ' s' w'.heap ∧ Grow base μ s w μ' s' w'
/-- the same of one that answers nothing -/
def GoodU (P : Program) (base : Nat) (μ : Mu) (s : St) (w : World) (m : Sem Unit) (s' : St) : Prop :=
  ∃ μ' w', m.run P w = .ok () w' ∧ Rel base μ' s' w'.heap ∧ Grow base μ s w μ' s' w'

section
variable {P : Program} {T : Tys} {base : Nat} {μ : Mu} {s : St} {w : World}

theorem Good.now (R : Rel base μ s w.heap) {m : Sem Value} {x : TV} {v : Value} (h : m.run P w = .ok v w) (hv : VT μ x v) : Good P base μ s w m x s :=
  ⟨μ, w, v, h, hv, R, .refl _ _ _ _⟩

theorem ofConst_sound {v : Value} {x : TV} (h : ofConst v = some x) : VT μ x v := by
  unfold ofConst at h
  split at h <;> first | (cases h; rfl) | (cases h; done) | skip
  · split at h
    · rename_i vs hs
      cases h
      have : vs = #[] := Array.eq_empty_of_size_eq_zero hs
      subst this
      exact ⟨[], rfl, .nil⟩
    · cases h

theorem opd_sound (R : Rel base μ s w.heap) {e : Env} {a : Act} (hE : VEnv μ e a.tmps) {o : Operand} {x : TV} (h : opd s.gl e o = some x) : VT μ x (a.eval o) := by
  cases o with
  | tmp t =>
    obtain ⟨v, h1, h2⟩ := hE t x h
    simp only [Act.eval, Array.getD_eq_getD_getElem?, h1, Option.getD_some]
    exact h2
  | const v => exact ofConst_sound h
  | global g =>
    simp only [opd] at h
    split at h
    · rename_i hg
      cases h
      obtain ⟨c, hc⟩ := R.glob g hg
      exact ⟨_, hc, by simp [Act.eval]⟩
    · cases h
  | func f => cases h; exact ⟨[], [], rfl, .nil, .nil⟩

theorem opds_sound (R : Rel base μ s w.heap) {e : Env} {a : Act} (hE : VEnv μ e a.tmps) : ∀ {l : List Operand} {xs : List TV}, opds s.gl e l = some xs → All2 (VT μ) xs (l.map a.eval)
  | [], xs, h => by simp [opds] at h; subst h; exact .nil
  | o :: l, xs, h => by
    unfold opds at h
    split at h
    · rename_i v l' h1 h2
      cases h
      exact .cons (opd_sound R hE h1) (opds_sound R hE h2)
    · cases h

theorem ptrs_sound : ∀ {xs : List TV} {ps : List (Nat × Nat)} {l : List Value}, ptrs xs = some ps → All2 (VT μ) xs l → All2 (VP μ) ps l
  | [], ps, l, h, H => by simp [ptrs] at h; subst h; cases H; exact .nil
  | x :: xs, ps, l, h, H => by
    cases H with
    | cons h1 h2 =>
      unfold ptrs at h
      split at h
      · rename_i hx; cases hx
      · rename_i b o r hx
        cases hx
        cases hp : ptrs xs with
        | none => simp [hp] at h
        | some q => simp [hp] at h; subst h; exact .cons h1 (ptrs_sound hp h2)
      · cases h

theorem run_info {t : TypeId} {i : TyI} {inf : TypeInfo} {d : TypeDesc} {z : Value} (K : TyOk P t i inf d z) (w : World) : (typeInfo t).run P w = .ok inf w := by simp [typeInfo, K.info]
theorem run_size {t : TypeId} {i : TyI} {inf : TypeInfo} {d : TypeDesc} {z : Value} (K : TyOk P t i inf d z) (w : World) : (sizeOf t).run P w = .ok i.size w := by simp [sizeOf, run_info K, K.size]
theorem run_zero {t : TypeId} {i : TyI} {inf : TypeInfo} {d : TypeDesc} {z : Value} (K : TyOk P t i inf d z) (w : World) : (zeroValue t).run P w = .ok z w := by simp [zeroValue, run_info K, K.zero]
theorem run_und {t : TypeId} {i : TyI} {inf : TypeInfo} {d : TypeDesc} {z : Value} (K : TyOk P t i inf d z) (w : World) : (underlying t).run P w = .ok d w := run_underlying K.und w
theorem run_agg {t : TypeId} {i : TyI} {inf : TypeInfo} {d : TypeDesc} {z : Value} (K : TyOk P t i inf d z) (w : World) : (isAgg t).run P w = .ok i.agg w := by
  have hk := K.k
  simp only [isAgg, Sem.run_bind, run_und K, Result.andThen_ok]
  unfold TyI.agg
  cases hi : i.k <;> rw [hi] at hk <;> cases d <;> simp_all [kB]

theorem St.cells_get {b : Nat} {cs : List AV} (h : s.cells b = some cs) : ∃ own, s.get b = some ⟨own, .cells cs⟩ := by
  unfold St.cells at h
  split at h
  · rename_i own l hb; cases h; exact ⟨own, hb⟩
  · cases h
theorem St.ownCells_get {b : Nat} {cs : List AV} (h : s.ownCells b = some cs) : s.get b = some ⟨true, .cells cs⟩ := by
  unfold St.ownCells at h
  split at h
  · rename_i l hb; cases h; exact hb
  · cases h

/-- what the model holds where an abstract block lies -/
theorem Rel.cells (R : Rel base μ s w.heap) {b : Nat} {cs : List AV} {m : Loc} (hb : s.cells b = some cs) (hm : μ b = some m) :
    ∃ (c : Array Value) (t : TypeId) (fr : Nat × Nat), w.heap[m.blk]? = some (.cells c t fr) ∧ c.size = m.csz ∧ m.sh + cs.length ≤ m.csz ∧ VL μ cs ((c.toList.drop m.sh).take cs.length) := by
  obtain ⟨own, hg⟩ := St.cells_get hb
  obtain ⟨c, t, fr, h1, h2, h3, h4, _⟩ := R.blk b _ m hg hm
  refine ⟨c, t, fr, h1, h2, h3, forall₂_of_get ?_ ?_⟩
  · simp; omega
  · intro i a hi
    obtain ⟨v, e, r⟩ := h4 i a hi
    refine ⟨v, ?_, r⟩
    have hlt : i < cs.length := by
      rcases Nat.lt_or_ge i cs.length with h | h
      · exact h
      · rw [List.getElem?_eq_none h] at hi; cases hi
    rw [List.getElem?_take_of_lt hlt, List.getElem?_drop]
    simpa using e
theorem cell_of {g o : Nat} {c : Array Value} {t : TypeId} {fr : Nat × Nat} (h : w.heap[g]? = some (.cells c t fr)) : w.cell? ⟨g, o, none⟩ = c[o]? := by simp [World.cell?, h]

/-- a stretch of cells, read -/
theorem Rel.loads (R : Rel base μ s w.heap) {b off n : Nat} {cs : List AV} {m : Loc} (hb : s.cells b = some cs) (hm : μ b = some m) (hn : off + n ≤ cs.length) :
    ∃ l : List Value, l.length = n ∧ VL μ ((cs.drop off).take n) l ∧ (∀ (w1 : World), w1.heap = w.heap → (∀ j v, l[j]? = some v → w1.cell? ((⟨m.blk, m.sh + off, none⟩ : Addr).add j) = some v) ∧ (loadCells ⟨m.blk, m.sh + off, none⟩ n).run P w1 = .ok l.toArray w1) := by
  obtain ⟨c, t, fr, h1, h2, h3, h4⟩ := R.cells hb hm
  have hlen : ((c.toList.drop (m.sh + off)).take n).length = n := by simp; omega
  refine ⟨(c.toList.drop (m.sh + off)).take n, hlen, ?_, ?_⟩
  · have := forall₂_take (forall₂_drop h4 off) n
    rw [List.drop_take, List.drop_drop, List.take_take, Nat.min_eq_left (by omega)] at this
    exact this
  · intro w1 hw
    have key : ∀ j v, ((c.toList.drop (m.sh + off)).take n)[j]? = some v → w1.cell? ((⟨m.blk, m.sh + off, none⟩ : Addr).add j) = some v := by
      intro j v hj
      rw [Addr.add_lit, cell_of (by rw [hw]; exact h1)]
      have hlt : j < n := by
        rcases Nat.lt_or_ge j n with h | h
        · exact h
        · rw [List.getElem?_eq_none (by rw [hlen]; exact h)] at hj; cases hj
      rw [List.getElem?_take_of_lt hlt, List.getElem?_drop] at hj
      simpa using hj
    refine ⟨key, ?_⟩
    have := run_loadCells_list (P := P) w1 ⟨m.blk, m.sh + off, none⟩ _ key
    rwa [hlen] at this

theorem wrap_sound {i : TyI} {cs : List AV} {l : List Value} {x : TV} (h : i.wrap cs = some x) (H : VL μ cs l) : (i.agg = true ∧ VT μ x (.agg l.toArray)) ∨ (i.agg = false ∧ ∃ v, l = [v] ∧ VT μ x v) := by
  unfold TyI.wrap at h
  split at h
  · rename_i ha; cases h; exact .inl ⟨ha, l, rfl, H⟩
  · rename_i ha
    split at h
    · cases h
      cases H with
      | cons h1 h2 => cases h2; exact .inr ⟨by simpa using ha, _, rfl, h1⟩
    · cases h

theorem good_load (hT : tysB P T = true) (R : Rel base μ s w.heap) {t : TypeId} {i : TyI} {b off : Nat} {pv : Value} {cs : List AV} {x : TV}
    (ht : T.at t = some i) (hp : VT μ (.v (.ptr b off)) pv) (hb : s.cells b = some cs) (hn : off + i.size ≤ cs.length) (hx : i.wrap ((cs.drop off).take i.size) = some x) : Good P base μ s w (Instr.loadAt t pv) x s := by
  obtain ⟨inf, d, z, K⟩ := tysB_spec hT ht
  obtain ⟨m, hm, rfl⟩ := hp
  obtain ⟨l, hl, hv, hrun⟩ := R.loads (P := P) hb hm hn
  obtain ⟨hcell, hload⟩ := hrun w rfl
  rcases wrap_sound hx hv with ⟨ha, hr⟩ | ⟨ha, v, rfl, hr⟩
  · refine Good.now R ?_ hr
    simp [Instr.loadAt, Instr.sureAddr, loadVar, run_agg K, ha, run_size K, hload]
  · refine Good.now R ?_ hr
    have := hcell 0 v (by simp)
    rw [Addr.add_zero'] at this
    simp [Instr.loadAt, Instr.sureAddr, loadVar, run_agg K, ha, this]

theorem heap_setRow (w : World) (g : Nat) (cs : Array Value) : (w.setRow g cs).heap.size = w.heap.size := by simp [World.setRow]

/-- a stretch of an own block's cells, laid anew -/
theorem Rel.store (R : Rel base μ s w.heap) {b off : Nat} {cs xs : List AV} {m : Loc} {vs : List Value} (hb : s.ownCells b = some cs) (hm : μ b = some m) (hn : off + xs.length ≤ cs.length) (hv : VL μ xs vs) :
    ∃ w', (storeCells ⟨m.blk, m.sh + off, none⟩ vs).run P w = .ok () w' ∧ Rel base μ (s.put b ⟨true, .cells (cs.take off ++ xs ++ cs.drop (off + xs.length))⟩) w'.heap ∧ Grow base μ s w μ (s.put b ⟨true, .cells (cs.take off ++ xs ++ cs.drop (off + xs.length))⟩) w' := by
  have hg := St.ownCells_get hb
  obtain ⟨c, t, fr, h1, h2, h3, h4, h5⟩ := R.blk b _ m hg hm
  have hfr := h5 rfl
  subst hfr
  have hlen := forall₂_length hv
  have hone : ∀ v ∈ vs, v.oneCell' = true := by
    clear hlen hn
    induction hv with
    | nil => intro v hv; simp at hv
    | cons x _ ih => intro v hv; rcases List.mem_cons.1 hv with rfl | h; exact x.one; exact ih v h
  have hrun := run_storeCells_at P m.blk (m.sh + off) t vs 0 c w h1 (by omega) hone
  simp only [Nat.add_zero] at hrun
  refine ⟨_, hrun, ?_⟩
  refine Rel.put R hg hm _ (heap_setRow _ _ _) (fun x hx => setRow_other w m.blk x _ hx) ?_ rfl rfl rfl
  refine ⟨_, t, (0, 0), setRow_heap w m.blk c _ t (0, 0) h1, ?_, ?_, ?_, fun _ => rfl⟩
  · simp; omega
  · simp; omega
  · intro j a hj
    simp only [List.getElem?_toArray]
    by_cases c1 : j < off
    · rw [List.append_assoc, List.getElem?_append_left (by simp; omega), List.getElem?_take_of_lt c1] at hj
      obtain ⟨v, e, r⟩ := h4 j a hj
      refine ⟨v, ?_, r⟩
      rw [List.append_assoc, List.getElem?_append_left (by simp; omega), List.getElem?_take_of_lt (by omega)]
      simpa using e
    · by_cases c2 : j < off + xs.length
      · rw [List.append_assoc, List.getElem?_append_right (by simp; omega)] at hj
        simp only [List.length_take] at hj
        rw [Nat.min_eq_left (by omega), List.getElem?_append_left (by omega)] at hj
        obtain ⟨v, e, r⟩ := forall₂_get hv _ _ hj
        refine ⟨v, ?_, r⟩
        rw [List.append_assoc, List.getElem?_append_right (by simp; omega)]
        simp only [List.length_take, Array.length_toList]
        rw [Nat.min_eq_left (by omega), List.getElem?_append_left (by omega)]
        rw [show m.sh + j - (m.sh + off) = j - off by omega]; exact e
      · rw [List.append_assoc, List.getElem?_append_right (by simp; omega)] at hj
        simp only [List.length_take] at hj
        rw [Nat.min_eq_left (by omega), List.getElem?_append_right (by omega), List.getElem?_drop] at hj
        rw [show off + xs.length + (j - off - xs.length) = j by omega] at hj
        obtain ⟨v, e, r⟩ := h4 j a hj
        refine ⟨v, ?_, r⟩
        rw [List.append_assoc, List.getElem?_append_right (by simp; omega)]
        simp only [List.length_take, Array.length_toList]
        rw [Nat.min_eq_left (by omega), List.getElem?_append_right (by omega), List.getElem?_drop]
        rw [show m.sh + off + vs.length + (m.sh + j - (m.sh + off) - vs.length) = m.sh + j by omega]
        simpa using e

theorem good_store (hT : tysB P T = true) (R : Rel base μ s w.heap) {t : TypeId} {i : TyI} {b off : Nat} {pv xv : Value} {cs xs : List AV} {x : TV}
    (ht : T.at t = some i) (hp : VT μ (.v (.ptr b off)) pv) (hx : VT μ x xv) (hb : s.ownCells b = some cs) (hc : x.cells = some xs) (hl : xs.length = i.size) (hn : off + xs.length ≤ cs.length) :
    GoodU P base μ s w (Instr.storeAt t pv xv) (s.put b ⟨true, .cells (cs.take off ++ xs ++ cs.drop (off + xs.length))⟩) := by
  obtain ⟨inf, d, z, K⟩ := tysB_spec hT ht
  obtain ⟨m, hm, rfl⟩ := hp
  have hv := VT.cells hx hc
  obtain ⟨w', h1, h2, h3⟩ := R.store (P := P) hb hm hn hv
  have hs : xv.cells.size = i.size := by have := forall₂_length hv; simp at this; omega
  refine ⟨μ, w', ?_, h2, h3⟩
  simp [Instr.storeAt, Instr.sureAddr, storeVar, run_size K, hs, h1]

/-- a new block of cells -/
theorem Rel.newCells (R : Rel base μ s w.heap) (cs : List AV) (vs : List Value) (t : TypeId) (h : VL μ cs (vs.take cs.length)) (hl : cs.length ≤ vs.length) :
    Rel base (μ.set s.next ⟨w.heap.size, 0, vs.length⟩) (s.new ⟨true, .cells cs⟩) (w.alloc (.cells vs.toArray t)).heap ∧ Grow base μ s w (μ.set s.next ⟨w.heap.size, 0, vs.length⟩) (s.new ⟨true, .cells cs⟩) (w.alloc (.cells vs.toArray t)) := by
  refine R.alloc _ _ _ rfl ?_
  intro μ' hle _ hp hh
  refine ⟨_, _, _, hh, by simp, by simpa using hl, ?_, fun _ => rfl⟩
  intro i a hi
  obtain ⟨v, e, r⟩ := forall₂_get h i a hi
  refine ⟨v, ?_, r.mono hle⟩
  have hlt : i < cs.length := by
    rcases Nat.lt_or_ge i cs.length with h' | h'
    · exact h'
    · rw [List.getElem?_eq_none h'] at hi; cases hi
  rw [List.getElem?_take_of_lt hlt] at e
  simpa using e
theorem Mu.set_self (μ : Mu) (b : Nat) (m : Loc) : μ.set b m b = some m := by simp [Mu.set]

theorem good_newVar (R : Rel base μ s w.heap) {xv : Value} {cs : List AV} (t : TypeId) (hv : VL μ cs xv.cells.toList) : Good P base μ s w (do pure (.pointer (some (← newVar t xv)))) (.v (.ptr s.next 0)) (s.new ⟨true, .cells cs⟩) := by
  have hl := forall₂_length hv
  obtain ⟨h1, h2⟩ := R.newCells cs xv.cells.toList t (by rw [hl, List.take_length]; exact hv) (by omega)
  refine ⟨_, _, _, ?_, ⟨_, Mu.set_self _ _ _, rfl⟩, h1, h2⟩
  simp [newVar, newRow]
end
end Go.Proofs.YtijkkgloennglaaGreatDoor.Ab
