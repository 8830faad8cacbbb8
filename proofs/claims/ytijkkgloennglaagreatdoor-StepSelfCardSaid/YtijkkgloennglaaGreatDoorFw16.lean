/-
  What comes in: a value that may be read whole is one of the abstract machine's, its slices' arrays being blocks that are looked at alone. No condition.
-/
import Derived.Test.YtijkkgloennglaaGreatDoorFw15
import Derived.Deep.Slices
import Derived.OpenShut
set_option linter.all false
namespace Go.Proofs.YtijkkgloennglaaGreatDoor.Ab
open Go Go.RowKit Go.ChangeShapes Go.WideShapes Go.Deep

/-- are a struct's fields one behind the other, of types that are supported? -/
def suppF (T : Tys) (S : TypeId → Bool) : Nat → List (Nat × Nat) → Nat → Bool
  | o, [], sz => o == sz
  | o, (off, ft) :: r, sz => off == o && S ft && (match T.at ft with | some i => suppF T S (o + i.size) r sz | none => false)
def suppT (T : Tys) : Nat → TypeId → Bool
  | 0, _ => false
  | n + 1, t => match T.at t with
    | some i => match i.k with
      | .bool | .int _ | .str => i.size == 1
      | .slice e => (match T.at e with | some j => decide (0 < j.size) | none => false) && suppT T n e
      | .struct fs => suppF T (suppT T n) 0 fs i.size
      | _ => false
    | none => false

/-- the shape of a struct's cells, field by field -/
def ShF (T : Tys) (S : TypeId → List AV → Prop) : List (Nat × Nat) → List AV → Prop
  | [], as => as = []
  | (_, ft) :: r, as => ∃ i a1 a2, T.at ft = some i ∧ as = a1 ++ a2 ∧ a1.length = i.size ∧ S ft a1 ∧ ShF T S r a2
/-- the shape of a type's cells -/
def ShA (T : Tys) (s : St) : Nat → TypeId → List AV → Prop
  | 0, _, _ => False
  | n + 1, t, as => match T.kd t with
    | some .bool => ∃ b, as = [.bool b]
    | some (.int k) => ∃ z, as = [.int k z] ∧ k.min ≤ z ∧ z ≤ k.max
    | some .str => ∃ l : List UInt8, as = [.str l] ∧ l.length ≤ maxLen
    | some (.slice e) => as = [.nils] ∨ as = [.emp] ∨ ∃ b len cap cs j, T.at e = some j ∧ as = [.sl b 0 len j.size (some cap)] ∧ s.get b = some ⟨false, .cells cs⟩ ∧ b < s.next ∧ len ≤ cap ∧ cap ≤ maxLen ∧ cs.length = cap * j.size ∧ ∀ i, i < cap → ShA T s n e ((cs.drop (i * j.size)).take j.size)
    | some (.struct fs) => ShF T (ShA T s n) fs as
    | _ => False

/-- memory that holds all that another one holds -/
structure Ext (μ : Mu) (s : St) (μ' : Mu) (s' : St) : Prop where
  mu : μ.le μ'
  next : s.next ≤ s'.next
  keep : ∀ b, b < s.next → s'.get b = s.get b
  gl : s'.gl = s.gl
theorem Ext.refl (μ : Mu) (s : St) : Ext μ s μ s := ⟨.refl μ, Nat.le_refl _, fun _ _ => rfl, rfl⟩
theorem Ext.trans {μ μ' μ'' : Mu} {s s' s'' : St} (h : Ext μ s μ' s') (k : Ext μ' s' μ'' s'') : Ext μ s μ'' s'' :=
  ⟨h.mu.trans k.mu, Nat.le_trans h.next k.next, fun b hb => (k.keep b (Nat.lt_of_lt_of_le hb h.next)).trans (h.keep b hb), k.gl.trans h.gl⟩

theorem ShF.mono {T : Tys} {S S' : TypeId → List AV → Prop} (h : ∀ t as, S t as → S' t as) : ∀ {fs : List (Nat × Nat)} {as : List AV}, ShF T S fs as → ShF T S' fs as
  | [], _, H => H
  | (_, _) :: _, _, H => by
    obtain ⟨i, a1, a2, h1, h2, h3, h4, h5⟩ := H
    exact ⟨i, a1, a2, h1, h2, h3, h _ _ h4, ShF.mono h h5⟩
theorem ShA.mono {T : Tys} {s s' : St} (hn : s.next ≤ s'.next) (hk : ∀ b, b < s.next → s'.get b = s.get b) : ∀ {n : Nat} {t : TypeId} {as : List AV}, ShA T s n t as → ShA T s' n t as
  | 0, _, _, H => H
  | n + 1, t, as, H => by
    unfold ShA at H ⊢
    split at H
    · exact H
    · exact H
    · exact H
    · rcases H with h | h | ⟨b, len, cap, cs, j, h1, h2, h3, h4, h5, h6, h7, h8⟩
      · exact .inl h
      · exact .inr (.inl h)
      · exact .inr (.inr ⟨b, len, cap, cs, j, h1, h2, (hk b h4).trans h3, Nat.lt_of_lt_of_le h4 hn, h5, h6, h7, fun i hi => ShA.mono hn hk (h8 i hi)⟩)
    · exact ShF.mono (fun _ _ h => ShA.mono hn hk h) H
    · exact H

structure RelN (μ : Mu) (s : St) (h : Array Obj) : Prop where
  rel : Rel h.size μ s h
  no : ∀ b B, s.get b = some B → B.own = false

theorem RelN.view {μ : Mu} {s : St} {h : Array Obj} (R : RelN μ s h) {m : Loc} (hm : m.blk < h.size) {k : BK} (hB : ∀ μ', μ.le μ' → BRel μ' false m h k) :
    RelN (μ.set s.next m) (s.new ⟨false, k⟩) h ∧ Ext μ s (μ.set s.next m) (s.new ⟨false, k⟩) := by
  have hle : μ.le (μ.set s.next m) := fun b m' hb => by
    have := (R.rel.dom b m' hb).1
    simp only [Mu.set]; rw [if_neg (by omega)]; exact hb
  have hno : ∀ b B, (s.new ⟨false, k⟩).get b = some B → B.own = false := fun b B hb => by
    rw [St.get_new] at hb
    split at hb
    · cases hb; rfl
    · exact R.no b B hb
  refine ⟨⟨⟨?_, ?_, ?_, ?_, R.rel.base, fun g hg => let ⟨c, hc⟩ := R.rel.glob g hg; ⟨c, hle _ _ hc⟩⟩, hno⟩, ⟨hle, by simp, fun b hb => by rw [St.get_new, if_neg (by omega)], rfl⟩⟩
  · intro b m' hb
    simp only [Mu.set] at hb
    split at hb
    · cases hb; subst b; exact ⟨by simp, hm⟩
    · have := R.rel.dom b m' hb; exact ⟨by simp; omega, this.2⟩
  · intro b B m' hb hb'
    simp only [Mu.set] at hb'
    rw [St.get_new] at hb
    split at hb'
    · rename_i e; subst e; cases hb'; rw [if_pos rfl] at hb; cases hb
      exact hB _ hle
    · rename_i e
      rw [if_neg e] at hb
      exact BRel.mono hle rfl (R.rel.blk b B m' hb hb')
  · intro b B m' hb ho hb'
    rw [hno b B hb] at ho; cases ho
  · intro b hb
    rw [St.get_new, if_neg (by simp at hb; omega)]
    exact R.rel.fresh b (by simp at hb; omega)

section
variable {H : Type} {enc : TypeId × Value → H} {P : Program} {T : Tys} {w : World}

/-- what a reading hands out -/
def Imp (T : Tys) (w : World) (n : Nat) (t : TypeId) (cs : List Value) : Prop :=
  ∀ (μ : Mu) (s : St), RelN μ s w.heap → ∃ μ' s' as, RelN μ' s' w.heap ∧ Ext μ s μ' s' ∧ VL μ' as cs ∧ ShA T s' n t as

theorem TyOk.cellsOf {t : TypeId} {i : TyI} {inf : TypeInfo} {d : TypeDesc} {z : Value} (K : TyOk P t i inf d z) : P.cellsOf t = i.size := by
  unfold Program.cellsOf; rw [K.info]; exact K.size

theorem imp_fields (hT : tysB P T = true) {n : Nat} {cs : List Value} {S : TypeId → Bool} : ∀ (fs : List (Nat × Nat)) (o sz : Nat), suppF T S o fs sz = true → cs.length = sz →
    (∀ off ft i, (off, ft) ∈ fs → T.at ft = some i → Imp T w n ft ((cs.drop off).take i.size)) →
    ∀ (μ : Mu) (s : St), RelN μ s w.heap → ∃ μ' s' as, RelN μ' s' w.heap ∧ Ext μ s μ' s' ∧ VL μ' as (cs.drop o) ∧ ShF T (ShA T s' n) fs as
  | [], o, sz, h, hl, _, μ, s, R => by
    simp only [suppF, beq_iff_eq] at h
    refine ⟨μ, s, [], R, .refl _ _, ?_, rfl⟩
    rw [List.drop_eq_nil_of_le (by omega)]; exact .nil
  | (off, ft) :: r, o, sz, h, hl, hf, μ, s, R => by
    simp only [suppF, Bool.and_eq_true, beq_iff_eq] at h
    obtain ⟨⟨rfl, hS⟩, h2⟩ := h
    split at h2
    · rename_i i hi
      obtain ⟨μ1, s1, a1, R1, E1, V1, S1⟩ := hf off ft i (by simp) hi μ s R
      obtain ⟨μ2, s2, a2, R2, E2, V2, S2⟩ := imp_fields hT r (off + i.size) sz h2 hl (fun o' f' i' hm hi' => hf o' f' i' (List.mem_cons_of_mem _ hm) hi') μ1 s1 R1
      have hlen : off + i.size ≤ cs.length := by
        have := suppF_le r (off + i.size) sz h2
        omega
      refine ⟨μ2, s2, a1 ++ a2, R2, E1.trans E2, ?_, i, a1, a2, hi, rfl, ?_, ShA.mono E2.next E2.keep S1, S2⟩
      · have : cs.drop off = (cs.drop off).take i.size ++ cs.drop (off + i.size) := by
          rw [← List.drop_drop, List.take_append_drop]
        rw [this]
        exact forall₂_append (V1.mono E2.mu) V2
      · have := forall₂_length V1
        rw [this]; simp; omega
    · cases h2
where
  suppF_le : ∀ (r : List (Nat × Nat)) (o sz : Nat), suppF T S o r sz = true → o ≤ sz
    | [], o, sz, h => by simp only [suppF, beq_iff_eq] at h; omega
    | (off, ft) :: r, o, sz, h => by
      simp only [suppF, Bool.and_eq_true] at h
      have h2 := h.2
      split at h2
      · have := suppF_le r _ sz h2; omega
      · cases h2

/-- each of a row's elements -/
theorem imp_elems {n sz : Nat} {e : TypeId} {V : Nat → Value} : ∀ (m : Nat), (∀ i, i < m → Imp T w n e ((List.range sz).map fun j => V (i * sz + j))) →
    ∀ (μ : Mu) (s : St), RelN μ s w.heap → ∃ μ' s' as, RelN μ' s' w.heap ∧ Ext μ s μ' s' ∧ VL μ' as ((List.range (m * sz)).map V) ∧ ∀ i, i < m → ShA T s' n e ((as.drop (i * sz)).take sz)
  | 0, _, μ, s, R => ⟨μ, s, [], R, .refl _ _, by simp; exact .nil, fun i hi => by omega⟩
  | m + 1, h, μ, s, R => by
    obtain ⟨μ1, s1, a1, R1, E1, V1, S1⟩ := imp_elems m (fun i hi => h i (by omega)) μ s R
    obtain ⟨μ2, s2, a2, R2, E2, V2, S2⟩ := h m (by omega) μ1 s1 R1
    have hl1 := forall₂_length V1
    have hl2 := forall₂_length V2
    simp at hl1 hl2
    refine ⟨μ2, s2, a1 ++ a2, R2, E1.trans E2, ?_, fun i hi => ?_⟩
    · have : (List.range ((m + 1) * sz)).map V = (List.range (m * sz)).map V ++ (List.range sz).map fun j => V (m * sz + j) := by
        rw [Nat.add_mul, Nat.one_mul, List.range_add, List.map_append, List.map_map]
        rfl
      rw [this]
      exact forall₂_append (V1.mono E2.mu) V2
    · by_cases hm : i < m
      · have hle : i * sz + sz ≤ m * sz := by
          have := Nat.mul_le_mul_right sz (show i + 1 ≤ m by omega)
          rw [Nat.add_mul, Nat.one_mul] at this; exact this
        have : ((a1 ++ a2).drop (i * sz)).take sz = (a1.drop (i * sz)).take sz := by
          rw [List.drop_append_of_le_length (by omega), List.take_append_of_le_length (by simp; omega)]
        rw [this]
        exact ShA.mono E2.next E2.keep (S1 i hm)
      · have hi' : i = m := by omega
        subst hi'
        have : ((a1 ++ a2).drop (i * sz)).take sz = a2 := by
          rw [List.drop_append, List.drop_eq_nil_of_le (by omega), hl1, Nat.sub_self, List.drop_zero, List.nil_append, List.take_of_length_le (by omega)]
        rw [this]; exact S2

theorem imp_trod (hT : tysB P T = true) : ∀ (n fuel : Nat) (t : TypeId) (cs : List Value) (x : DataW H × List MemPlace), suppT T n t = true → DataW.trod enc P w 0 (fun _ => true) true fuel t cs = some x → Imp T w n t cs
  | 0, _, _, _, _, h, _ => by simp [suppT] at h
  | n + 1, fuel, t, cs, x, hs, h => by
    intro μ s R
    unfold suppT at hs
    split at hs
    · rename_i i hi
      obtain ⟨inf, d, z, K⟩ := tysB_spec hT hi
      have hk := K.k
      have hkd : T.kd t = some i.k := by unfold Tys.kd; rw [hi]
      split at hs
      · rename_i hik
        rw [hik] at hk; cases d <;> simp [kB] at hk
        obtain ⟨b, rfl, _⟩ := DataW.trod_bool K.und h
        exact ⟨μ, s, [.bool b], R, .refl _ _, .cons rfl .nil, by unfold ShA; rw [hkd, hik]; exact ⟨b, rfl⟩⟩
      · rename_i k hik
        rw [hik] at hk; cases d <;> simp [kB] at hk
        subst hk
        obtain ⟨q, rfl, _, hwf⟩ := DataW.trod_int K.und h
        simp only [Lit.wf, Bool.and_eq_true, decide_eq_true_eq] at hwf
        exact ⟨μ, s, [.int k q], R, .refl _ _, .cons rfl .nil, by unfold ShA; rw [hkd, hik]; exact ⟨q, rfl, hwf.1, hwf.2⟩⟩
      · rename_i hik
        rw [hik] at hk; cases d <;> simp [kB] at hk
        obtain ⟨q, rfl, _, hq⟩ := DataW.trod_string K.und h
        refine ⟨μ, s, [.str q.data.toList], R, .refl _ _, .cons ?_ .nil, by unfold ShA; rw [hkd, hik]; exact ⟨q.data.toList, rfl, by rw [Array.length_toList]; exact hq⟩⟩
        show Value.string q = .string _
        cases q; simp
      · rename_i e hik
        rw [hik] at hk; cases d <;> simp [kB] at hk
        subst hk
        simp only [Bool.and_eq_true] at hs
        obtain ⟨hs1, hs2⟩ := hs
        split at hs1
        · rename_i j hj
          simp only [decide_eq_true_eq] at hs1
          obtain ⟨inf2, d2, z2, K2⟩ := tysB_spec hT hj
          have hsz := K2.cellsOf
          rcases open_slice K.und h with ⟨rfl, _⟩ | ⟨a, len, cap, m, q, D, Pl, rfl, hb, hl, hm, hmm, hx, hel⟩
          · exact ⟨μ, s, [.nils], R, .refl _ _, .cons rfl .nil, by unfold ShA; rw [hkd, hik]; exact .inl rfl⟩
          · simp only [if_true] at hmm
            subst hmm
            by_cases hc0 : m = 0
            · have hl0 : len = 0 := by omega
              subst hc0; subst hl0
              exact ⟨μ, s, [.emp], R, .refl _ _, .cons ⟨a, rfl⟩ .nil, by unfold ShA; rw [hkd, hik]; exact .inr (.inl rfl)⟩
            · rw [hsz] at hel
              -- the first cell tells where it lies
              have hcell : ∀ i, i < m → ∀ k, k < j.size → ∃ v, w.cell? ((a.add (i * j.size)).add k) = some v := by
                intro i hi k hk
                obtain ⟨cs', h1, h2⟩ := hel i hi
                obtain ⟨_, hl1, hat⟩ := World.cells?_some h1
                rw [hat k hk]
                exact ⟨_, List.getElem?_eq_getElem (by omega)⟩
              obtain ⟨v0, hv0⟩ := hcell 0 (by omega) 0 hs1
              obtain ⟨ab, ao, asp⟩ := a
              have hspot : asp = none := by
                cases asp with
                | none => rfl
                | some q => simp [World.cell?, Addr.add] at hv0; split at hv0 <;> simp at hv0
              subst hspot
              have hblk : ∃ (c : Array Value) (tt : TypeId) (fr : Nat × Nat), w.heap[ab]? = some (.cells c tt fr) := by
                simp only [World.cell?, Addr.add_lit] at hv0
                split at hv0
                · rename_i c tt fr hh; exact ⟨c, tt, fr, hh⟩
                · cases hv0
              obtain ⟨c, tt, fr, hh⟩ := hblk
              have hcv : ∀ i, w.cell? ⟨ab, i, none⟩ = c[i]? := fun i => by simp [World.cell?, hh]
              have hsome : ∀ k, k < m * j.size → ∃ v, c[ao + k]? = some v := by
                intro k hk
                have hi : k / j.size < m := Nat.div_lt_of_lt_mul (by rw [Nat.mul_comm]; exact hk)
                obtain ⟨v, hv⟩ := hcell (k / j.size) hi (k % j.size) (Nat.mod_lt _ hs1)
                rw [Addr.add_lit, Addr.add_lit, hcv] at hv
                have e1 : ao + k / j.size * j.size + k % j.size = ao + k := by
                  have := Nat.div_add_mod k j.size
                  rw [Nat.mul_comm] at this; omega
                rw [e1] at hv
                exact ⟨v, hv⟩
              let V : Nat → Value := fun k => c[ao + k]?.getD undef
              have hV : ∀ k, k < m * j.size → c[ao + k]? = some (V k) := fun k hk => by
                obtain ⟨v, hv⟩ := hsome k hk
                simp only [V, hv, Option.getD_some]
              have helem : ∀ i, i < m → Imp T w n e ((List.range j.size).map fun k => V (i * j.size + k)) := by
                intro i hi
                obtain ⟨cs', h1, h2⟩ := hel i hi
                obtain ⟨_, hl1, hat⟩ := World.cells?_some h1
                have : cs' = (List.range j.size).map fun k => V (i * j.size + k) := by
                  apply List.ext_getElem?
                  intro k
                  by_cases hk : k < j.size
                  · rw [← hat k hk, Addr.add_lit, Addr.add_lit, hcv, List.getElem?_map, List.getElem?_range hk]
                    have hlt : i * j.size + k < m * j.size := by
                      have := Nat.mul_le_mul_right j.size (show i + 1 ≤ m by omega)
                      rw [Nat.add_mul, Nat.one_mul] at this; omega
                    rw [Nat.add_assoc, hV _ hlt]; rfl
                  · rw [List.getElem?_eq_none (by omega), List.getElem?_eq_none (by simp; omega)]
                rw [← this]
                exact imp_trod hT n q e cs' _ hs2 h2
              obtain ⟨μ1, s1, as, R1, E1, V1, S1⟩ := imp_elems m helem μ s R
              have hal := forall₂_length V1
              simp at hal
              have hblt : ab < w.heap.size := (Array.getElem?_eq_some_iff.1 hh).1
              have hroom : ao + m * j.size ≤ c.size := by
                have hpos : 0 < m * j.size := Nat.mul_pos (by omega) hs1
                have := hV (m * j.size - 1) (by omega)
                have := (Array.getElem?_eq_some_iff.1 this).1
                omega
              obtain ⟨R2, E2⟩ := R1.view (m := ⟨ab, ao, c.size⟩) (k := .cells as) hblt (fun μ' hle => by
                refine ⟨c, tt, fr, hh, rfl, by simp; omega, fun i a hi => ?_, fun h => by cases h⟩
                obtain ⟨v, hv, hr⟩ := forall₂_get V1 i a hi
                have hilt : i < m * j.size := by have := (List.getElem?_eq_some_iff.1 hi).1; omega
                rw [List.getElem?_map, List.getElem?_range hilt] at hv
                simp at hv
                exact ⟨v, by rw [hV i hilt, hv], hr.mono hle⟩)
              refine ⟨_, _, [.sl s1.next 0 len j.size (some m)], R2, E1.trans E2, .cons ⟨⟨ab, ao, c.size⟩, ao, m, by simp [Mu.set], rfl, fun _ => by simp, hl, fun k hk => by cases hk; rfl, fun hk => by cases hk⟩ .nil, ?_⟩
              unfold ShA
              rw [hkd, hik]
              refine .inr (.inr ⟨s1.next, len, m, as, j, hj, rfl, by simp, by simp, hl, hm, hal, fun i hi => ShA.mono E2.next E2.keep (S1 i hi)⟩)
        · cases hs1
      · rename_i fs hik
        rw [hik] at hk; cases d <;> simp [kB] at hk
        rename_i gs
        obtain ⟨hk1, hk2⟩ := hk
        obtain ⟨xs, q, _, _, hcl, hxl, hf⟩ := DataW.trod_struct K.und h
        rw [K.cellsOf] at hcl
        obtain ⟨μ1, s1, as, R1, E1, V1, S1⟩ := imp_fields (w := w) (n := n) hT fs 0 i.size hs hcl (fun off ft i' hmem hi' => by
          obtain ⟨inf2, d2, z2, K2⟩ := tysB_spec hT hi'
          rw [← hk1] at hmem
          obtain ⟨g, hg, hge⟩ := List.mem_map.1 hmem
          obtain ⟨rfl, rfl⟩ := Prod.mk.inj hge
          obtain ⟨j, hj⟩ := List.getElem?_of_mem hg
          have hfj := hf j g (by simpa using hj)
          have hjl : j < xs.length := by
            have := (List.getElem?_eq_some_iff.1 hj).1
            simp at this; omega
          rw [List.getElem?_eq_getElem hjl, K2.cellsOf] at hfj
          have hst : suppT T n g.type = true := suppF_mem fs 0 i.size hs g.offset g.type (by rw [← hk1]; exact List.mem_map.2 ⟨g, hg, rfl⟩)
          exact imp_trod hT n q g.type _ _ hst hfj) μ s R
        rw [List.drop_zero] at V1
        exact ⟨μ1, s1, as, R1, E1, V1, by unfold ShA; rw [hkd, hik]; exact S1⟩
      · cases hs
    · cases hs
where
  suppF_mem {n : Nat} : ∀ (fs : List (Nat × Nat)) (o sz : Nat), suppF T (suppT T n) o fs sz = true → ∀ off ft, (off, ft) ∈ fs → suppT T n ft = true
    | [], _, _, _, _, _, hm => by simp at hm
    | (o1, f1) :: r, o, sz, h, off, ft, hm => by
      simp only [suppF, Bool.and_eq_true] at h
      rcases List.mem_cons.1 hm with h1 | h1
      · cases h1; exact h.1.2
      · have h2 := h.2
        split at h2
        · exact suppF_mem r _ _ h2 off ft h1
        · cases h2
end
end Go.Proofs.YtijkkgloennglaaGreatDoor.Ab
