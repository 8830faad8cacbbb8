/-
  Each step of the abstract machine is one of the model's, more of them. No condition.
-/
import Derived.Test.YtijkkgloennglaaGreatDoorFw3
set_option linter.all false
namespace Go.Proofs.YtijkkgloennglaaGreatDoor.Ab
open Go Go.RowKit

section
variable {P : Program} {T : Tys} {base : Nat} {μ : Mu} {s : St} {w : World}

theorem VT.size {x : TV} {v : Value} (H : VT μ x v) {cs : List AV} (h : x.cells = some cs) : v.cells.size = cs.length := by
  have := forall₂_length (VT.cells H h)
  simp at this; omega

theorem fill_fold (off : Nat) (l : List Value) : ∀ (i : Nat) (cs : Array Value), off + i + l.length ≤ cs.size →
    ((l.zipIdx i).foldl (fun cs (c, j) => cs.setIfInBounds (off + j) c) cs).toList = cs.toList.take (off + i) ++ l ++ cs.toList.drop (off + i + l.length) := by
  induction l with
  | nil => intro i cs _; simp
  | cons x l ih =>
    intro i cs h
    simp only [List.zipIdx_cons, List.foldl_cons]
    rw [ih (i + 1) _ (by simp at h ⊢; omega)]
    simp only [Array.toList_setIfInBounds]
    simp at h
    have e := list_seg_step cs.toList (off + i) x l (by simp; omega)
    simpa [Nat.add_assoc] using e

theorem fill_sound : ∀ {ps : List (Nat × TV)} {vs : List (Nat × Value)} {place place' : Nat → Option (Nat × Nat)} {cs r : List AV} {ws : Array Value}, (∀ i p, place i = some p → place' i = some p) →
    All2 (fun a b => a.1 = b.1 ∧ VT μ a.2 b.2) ps vs → fillA place cs ps = some r → VL μ cs ws.toList → ∃ ws', Instr.fill place' ws vs = some ws' ∧ VL μ r ws'.toList
  | [], vs, place, place', cs, r, ws, hp, H, h, hc => by
    cases H; simp [fillA] at h; subst h; exact ⟨ws, rfl, hc⟩
  | (i, x) :: ps, vs, place, place', cs, r, ws, hp, H, h, hc => by
    cases H with
    | cons h1 h2 =>
      rename_i b vs
      obtain ⟨i', v⟩ := b
      obtain ⟨e, hv⟩ := h1
      simp only at e hv
      subst e
      unfold fillA at h
      split at h
      · rename_i off size xs hpl hxc
        split at h
        · rename_i hcond
          have hsz := hv.size hxc
          have hlen := forall₂_length hc
          simp only [Array.length_toList] at hlen
          have hcell := VT.cells hv hxc
          unfold Instr.fill
          rw [hp _ _ hpl]
          simp only
          rw [if_neg (by simp; omega)]
          refine fill_sound hp h2 h ?_
          have e := fill_fold off v.cells.toList 0 ws (by simp; omega)
          have e2 : (v.cells.zipIdx.foldl (fun cs (c, j) => cs.setIfInBounds (off + j) c) ws).toList = ((v.cells.toList.zipIdx 0).foldl (fun cs (c, j) => cs.setIfInBounds (off + j) c) ws).toList := by
            rw [← Array.foldl_toList, Array.toList_zipIdx]
          rw [e2, e]
          simp only [Nat.add_zero]
          refine forall₂_append (forall₂_append (forall₂_take hc off) hcell) ?_
          have := forall₂_drop hc (off + xs.length)
          rw [show v.cells.toList.length = xs.length by simp; omega]
          exact this
        · cases h
      · cases h

theorem partsOf_sound (R : Rel base μ s w.heap) {e : Env} {a : Act} (hE : VEnv μ e a.tmps) : ∀ {l : List (Nat × Operand)} {xs : List (Nat × TV)}, partsOf s.gl e l = some xs → All2 (fun a b => a.1 = b.1 ∧ VT μ a.2 b.2) xs (l.map fun (i, x) => (i, a.eval x))
  | [], xs, h => by simp [partsOf] at h; subst h; exact .nil
  | (i, o) :: l, xs, h => by
    unfold partsOf at h
    split at h
    · rename_i v l' h1 h2
      cases h
      exact .cons ⟨rfl, opd_sound R hE h1⟩ (partsOf_sound R hE h2)
    · cases h

theorem fieldPlaces_sound (hT : tysB P T = true) : ∀ {fs : List Field} {pl : List (Nat × Nat)}, fieldPlaces T (fs.map fun f => (f.offset, f.type)) = some pl → fs.mapM (fun f => (P.info? f.type).map fun i => (f.offset, i.size)) = some pl
  | [], pl, h => by simp [fieldPlaces] at h; subst h; rfl
  | f :: fs, pl, h => by
    simp only [List.map_cons] at h
    unfold fieldPlaces at h
    split at h
    · rename_i i l h1 h2
      cases h
      obtain ⟨inf, d, z, K⟩ := tysB_spec hT h1
      simp [List.mapM_cons, K.info, K.size, fieldPlaces_sound hT h2]
    · cases h

theorem good_buildStruct (hT : tysB P T = true) (R : Rel base μ s w.heap) {t : TypeId} {i : TyI} {fs : List (Nat × Nat)} {pl : List (Nat × Nat)} {ps : List (Nat × TV)} {vs : Array (Nat × Value)} {r : List AV}
    (ht : T.at t = some i) (hk : i.k = .struct fs) (hpl : fieldPlaces T fs = some pl) (hps : All2 (fun a b => a.1 = b.1 ∧ VT μ a.2 b.2) ps vs.toList) (hf : fillA (pl[·]?) i.zero ps = some r) :
    Good P base μ s w (Instr.build t vs) (.agg r) s := by
  obtain ⟨inf, d, z, K⟩ := tysB_spec hT ht
  have hk' := K.k
  rw [hk] at hk'
  cases d <;> simp [kB] at hk'
  rename_i gs
  obtain ⟨e, _⟩ := hk'
  have hgs : fieldPlaces T (gs.toList.map fun f => (f.offset, f.type)) = some pl := by rw [← hpl, ← e]
  have hpl' := fieldPlaces_sound (P := P) hT hgs
  have hplaces := run_places (P := P) w gs.toList pl hpl'
  obtain ⟨ws', h1, h2⟩ := fill_sound (place' := (pl.toArray[·]?)) (by intro i p hp; simpa using hp) hps hf (K.zc μ)
  refine Good.now R (v := .agg ws') ?_ ⟨ws'.toList, by simp, h2⟩
  have hm : (gs.mapM fun f => Prod.mk f.offset <$> sizeOf f.type).run P w = .ok pl.toArray w := by
    rw [Array.mapM_eq_mapM_toList]
    simp only [Sem.run_map, hplaces, Result.andThen_ok]
  simp only [Instr.build, Sem.run_bind, run_zero K, run_und K, Result.andThen_ok, bind_pure_comp, hm, h1, Sem.run_pure]

theorem zeros_length (z : List AV) : ∀ n, (zeros z n).length = n * z.length
  | 0 => by simp [zeros]
  | n + 1 => by simp only [zeros, List.length_append, zeros_length z n, Nat.add_mul]; omega
theorem zeros_get (z : List AV) : ∀ n j, j < n * z.length → (zeros z n)[j]? = z[j % z.length]?
  | 0, j, h => by simp at h
  | n + 1, j, h => by
    simp only [zeros]
    by_cases c : j < z.length
    · rw [List.getElem?_append_left c, Nat.mod_eq_of_lt c]
    · rw [List.getElem?_append_right (by omega), zeros_get z n _ (by rw [Nat.add_mul] at h; omega)]
      congr 1
      rw [← Nat.mod_eq_sub_mod (by omega)]

theorem zeros_sound {z : List AV} {zv : Array Value} (hz : VL μ z zv.toList) (n : Nat) : VL μ (zeros z n) ((Array.range (n * zv.size)).map (fun i => zv[i % zv.size]!)).toList := by
  have hl := forall₂_length hz
  simp only [Array.length_toList] at hl
  refine forall₂_of_get (by simp [zeros_length, hl]) ?_
  intro j a hj
  have hlt : j < n * z.length := by
    rcases Nat.lt_or_ge j (n * z.length) with h | h
    · exact h
    · rw [List.getElem?_eq_none (by rw [zeros_length]; exact h)] at hj; cases hj
  rw [zeros_get z n j hlt] at hj
  obtain ⟨v, e, r⟩ := forall₂_get hz _ _ hj
  refine ⟨v, ?_, r⟩
  have hpos : 0 < zv.size := by
    rcases Nat.eq_zero_or_pos zv.size with h | h
    · rw [hl, h] at hlt; simp at hlt
    · exact h
  rw [hl] at e hlt
  have hmod : j % zv.size < zv.size := Nat.mod_lt _ hpos
  have e' : zv[j % zv.size]! = v := by
    rw [getElem!_pos zv _ hmod]
    simpa [hmod] using e
  simp [hlt, e']

/-- A BLOCK IS MADE: what the model does, wherever it lies -/
def AllocRun (P : Program) (μ : Mu) (m : Sem Value) (f : Nat → TV) (k : BK) : Prop :=
  ∃ (o : Obj) (F : Nat → Value) (csz : Nat), (∀ w : World, m.run P w = .ok (F w.heap.size) (w.alloc o)) ∧ (∀ (μ' : Mu) n blk, μ' n = some ⟨blk, 0, csz⟩ → VT μ' (f n) (F blk)) ∧
    (∀ μ' : Mu, μ.le μ' → ∀ (h : Array Obj) blk, h[blk]? = some o → BRel μ' true ⟨blk, 0, csz⟩ h k)

theorem cells_BRel {μ' : Mu} (cs : List AV) (vs : List Value) (t : TypeId) (h : VL μ' cs vs) (hp : Array Obj) (blk : Nat) (hh : hp[blk]? = some (.cells vs.toArray t)) : BRel μ' true ⟨blk, 0, vs.length⟩ hp (.cells cs) := by
  have hl := forall₂_length h
  refine ⟨_, _, _, hh, by simp, by simp; omega, ?_, fun _ => rfl⟩
  intro i a hi
  obtain ⟨v, e, r⟩ := forall₂_get h i a hi
  exact ⟨v, by simpa using e, r⟩

theorem alloc_newVar {xv : Value} {cs : List AV} (t : TypeId) (hv : VL μ cs xv.cells.toList) : AllocRun P μ (do pure (.pointer (some (← newVar t xv)))) (fun n => .v (.ptr n 0)) (.cells cs) := by
  refine ⟨.cells xv.cells t, fun n => .pointer (some ⟨n, 0, none⟩), xv.cells.toList.length, fun w => by simp [newVar, newRow], fun μ' n blk hn => ⟨_, hn, rfl⟩, fun μ' hle h blk hh => ?_⟩
  exact cells_BRel cs xv.cells.toList t (hv.mono hle) h blk (by simpa using hh)

theorem alloc_alloc (hT : tysB P T = true) {t : TypeId} {i : TyI} (ht : T.at t = some i) : AllocRun P μ (Instr.alloc t true (.tuple #[])) (fun n => .v (.ptr n 0)) (.cells i.zero) := by
  obtain ⟨inf, d, z, K⟩ := tysB_spec hT ht
  obtain ⟨o, F, csz, h1, h2, h3⟩ := alloc_newVar (P := P) (μ := μ) (xv := z) t (K.zc μ)
  refine ⟨o, F, csz, fun w => ?_, h2, h3⟩
  simp only [Instr.alloc, Sem.run_bind, run_zero K w, Result.andThen_ok]
  simpa using h1 w

theorem alloc_buildSlice (hT : tysB P T = true) {t et : TypeId} {i : TyI} {len : Nat} {ps : List (Nat × TV)} {vs : Array (Nat × Value)} {r : List AV}
    (ht : T.kd t = some (.slice et)) (he : T.at et = some i) (hlen : ¬ len * i.size > 16777216) (hps : All2 (fun a b => a.1 = b.1 ∧ VT μ a.2 b.2) ps vs.toList) (hf : fillA (fun j => some (j * i.size, i.size)) (zeros i.zero len) ps = some r) :
    AllocRun P μ (Instr.buildSlice t len vs) (fun n => .v (.sl n 0 len i.size (some len))) (.cells r) := by
  obtain ⟨ti, hti, hk⟩ := kd_spec ht
  obtain ⟨inf, d, z, K⟩ := tysB_spec hT hti
  obtain ⟨inf', d', z', K'⟩ := tysB_spec hT he
  have hk' := K.k
  rw [hk] at hk'
  cases d <;> simp [kB] at hk'
  subst hk'
  have hz := zeros_sound (K'.zc μ) len
  have hzl := forall₂_length (K'.zc μ)
  simp only [Array.length_toList] at hzl
  obtain ⟨ws', h1, h2⟩ := fill_sound (place' := fun j => some (j * i.size, i.size)) (by intro i p hp; exact hp) hps hf hz
  have hsz : z'.cells.size = i.size := by rw [← K'.zl, hzl]
  have hws : ws'.size = len * i.size := by
    have hr := forall₂_length h2
    have : ∀ (ps : List (Nat × TV)) (cs r : List AV), fillA (fun j => some (j * i.size, i.size)) cs ps = some r → r.length = cs.length := by
      intro ps
      induction ps with
      | nil => intro cs r h; simp [fillA] at h; subst h; rfl
      | cons p ps ih =>
        intro cs r h
        obtain ⟨q, x⟩ := p
        unfold fillA at h
        split at h
        · split at h
          · rename_i hc; rw [ih _ _ h]; simp; omega
          · cases h
        · cases h
    have := this _ _ _ hf
    rw [zeros_length, K'.zl] at this
    simp at hr; omega
  refine ⟨.cells ws' et, fun n => .slice (some ⟨n, 0, none⟩) len len, ws'.toList.length, fun w => ?_, fun μ' n blk hn => ⟨_, 0, len, hn, rfl, fun _ => by simp, Nat.le_refl _, fun k hk => by cases hk; rfl, fun hk => by cases hk⟩, fun μ' hle h blk hh => cells_BRel r ws'.toList et (h2.mono hle) h blk (by simpa using hh)⟩
  simp only [Instr.buildSlice, Sem.run_bind, run_und K, run_size K', Result.andThen_ok]
  rw [if_neg (show ¬ len * i.size > 2 ^ 24 by simpa using hlen)]
  by_cases c : len * i.size = 0
  · rw [if_pos c]
    have hfill : Instr.fill (fun j => some (j * i.size, i.size)) ((Array.range (len * i.size)).map (fun x => (#[] : Array Value)[x % (#[] : Array Value).size]!)) vs.toList = some ws' := by
      rw [← h1, hsz, c, show Array.range 0 = #[] from rfl, Array.map_empty, Array.map_empty]
    simp only [pure_bind]
    rw [hfill]
    simp [newRow]
  · rw [if_neg c]
    rw [hsz] at h1
    simp only [pure_bind, Sem.run_bind, run_zero K', Result.andThen_ok, hsz]
    rw [h1]
    simp [newRow]

theorem alloc_makeMap (t : TypeId) : AllocRun P μ (Instr.makeMap t none) (fun n => .v (.map n)) (.map []) :=
  ⟨.map #[] 0, fun n => .map (some n), 0, fun _ => rfl, fun _ _ _ hn => ⟨_, hn, rfl⟩, fun _ _ _ _ hh => ⟨#[], 0, hh, .nil, fun _ => ⟨rfl, fun i x hx => by simp at hx⟩⟩⟩

/-- it is made at once -/
theorem AllocRun.good (R : Rel base μ s w.heap) {m : Sem Value} {f : Nat → TV} {k : BK} (h : AllocRun P μ m f k) : Good P base μ s w m (f s.next) (s.new ⟨true, k⟩) := by
  obtain ⟨o, F, csz, h1, h2, h3⟩ := h
  obtain ⟨g1, g2⟩ := R.alloc ⟨true, k⟩ ⟨w.heap.size, 0, csz⟩ o rfl (fun μ' hle _ hp hh => h3 μ' hle hp _ hh)
  exact ⟨_, _, _, h1 w, h2 _ _ _ (by simp [Mu.set]), g1, g2⟩
end
end Go.Proofs.YtijkkgloennglaaGreatDoor.Ab
