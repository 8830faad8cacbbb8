/-
  What the listed package variables hold, as cells of the abstract machine. No condition.
-/
import Derived.Test.YtijkkgloennglaaGreatDoorFw16
import Derived.LaidSub
set_option linter.all false
namespace Go.Proofs.YtijkkgloennglaaGreatDoor.Ab
open Go Go.RowKit Go.ChangeShapes Go.WideShapes Go.Deep

mutual
/-- a datum without addresses, cell by cell -/
def flatP {H : Type} : DataW H → Option (List AV)
  | .lit (.int k n) => some [.int k n]
  | .lit (.bool b) => some [.bool b]
  | .lit (.string l) => some [.str l]
  | .agg l => flatPs l
  | _ => none
def flatPs {H : Type} : List (DataW H) → Option (List AV)
  | [] => some []
  | d :: r => match flatP d, flatPs r with
    | some a, some b => some (a ++ b)
    | _, _ => none
end
def suppP (T : Tys) : Nat → TypeId → Bool
  | 0, _ => false
  | n + 1, t => match T.at t with
    | some i => match i.k with
      | .bool | .int _ | .str => i.size == 1
      | .struct fs => suppF T (suppP T n) 0 fs i.size
      | .arr m e => (match T.at e with | some j => i.size == m * j.size | none => false) && suppP T n e
      | _ => false
    | none => false

section
variable {H : Type} {enc : TypeId × Value → H} {P : Program} {T : Tys} {w : World} {base : Nat} {sp : Nat → Bool} {held : Bool}

theorem flat_fields {μ : Mu} {n q : Nat} {cs : List Value} (ih : ∀ (t : TypeId) (i : TyI) (cs : List Value) (y : DataW H × List MemPlace) (as : List AV), T.at t = some i → suppP T n t = true → DataW.trod enc P w base sp held q t cs = some y → flatP y.1 = some as → cs.length = i.size ∧ VL μ as cs) :
    ∀ (fs : List (Nat × Nat)) (o sz : Nat) (ys : List (DataW H × List MemPlace)) (as : List AV), suppF T (suppP T n) o fs sz = true → cs.length = sz → fs.length = ys.length →
      (∀ (j off ft : Nat) (i : TyI), fs[j]? = some (off, ft) → T.at ft = some i → DataW.trod enc P w base sp held q ft ((cs.drop off).take i.size) = ys[j]?) → flatPs (ys.map (·.1)) = some as → VL μ as (cs.drop o)
  | [], o, sz, ys, as, h, hl, hy, _, hf => by
    simp only [suppF, beq_iff_eq] at h
    have : ys = [] := List.length_eq_zero_iff.1 hy.symm
    subst this
    simp [flatPs] at hf
    subst hf
    rw [List.drop_eq_nil_of_le (by omega)]; exact .nil
  | (off, ft) :: r, o, sz, ys, as, h, hl, hy, hp, hf => by
    simp only [suppF, Bool.and_eq_true, beq_iff_eq] at h
    obtain ⟨⟨rfl, hS⟩, h2⟩ := h
    cases ys with
    | nil => simp at hy
    | cons y ys =>
      split at h2
      · rename_i i hi
        simp only [List.map_cons, flatPs] at hf
        split at hf
        · rename_i a1 a2 h3 h4
          cases hf
          have h5 := hp 0 off ft i (by simp) hi
          simp only [List.getElem?_cons_zero] at h5
          obtain ⟨l1, V1⟩ := ih ft i _ y a1 hi hS h5 h3
          have V2 := flat_fields ih r (off + i.size) sz ys a2 h2 hl (by simpa using hy) (fun j o' f' i' hj hi' => by
            have := hp (j + 1) o' f' i' (by simpa using hj) hi'
            simpa using this) h4
          have : cs.drop off = (cs.drop off).take i.size ++ cs.drop (off + i.size) := by
            rw [← List.drop_drop, List.take_append_drop]
          rw [this]
          exact forall₂_append V1 V2
        · cases hf
      · cases h2

theorem flat_elems {μ : Mu} {n q e : Nat} {j : TyI} {cs : List Value} (hj : T.at e = some j) (he : suppP T n e = true) (ih : ∀ (t : TypeId) (i : TyI) (cs : List Value) (y : DataW H × List MemPlace) (as : List AV), T.at t = some i → suppP T n t = true → DataW.trod enc P w base sp held q t cs = some y → flatP y.1 = some as → cs.length = i.size ∧ VL μ as cs) :
    ∀ (ys : List (DataW H × List MemPlace)) (o : Nat) (as : List AV), cs.length = o + ys.length * j.size → (∀ i, i < ys.length → DataW.trod enc P w base sp held q e ((cs.drop (o + i * j.size)).take j.size) = ys[i]?) → flatPs (ys.map (·.1)) = some as → VL μ as (cs.drop o)
  | [], o, as, hl, _, hf => by
    simp [flatPs] at hf
    subst hf
    simp at hl
    rw [List.drop_eq_nil_of_le (by omega)]; exact .nil
  | y :: ys, o, as, hl, hp, hf => by
    simp only [List.map_cons, flatPs] at hf
    split at hf
    · rename_i a1 a2 h3 h4
      cases hf
      have h5 := hp 0 (by simp)
      simp only [Nat.zero_mul, Nat.add_zero, List.getElem?_cons_zero] at h5
      obtain ⟨l1, V1⟩ := ih e j _ y a1 hj he h5 h3
      have V2 := flat_elems (cs := cs) hj he ih ys (o + j.size) a2 (by simp only [List.length_cons, Nat.add_mul, Nat.one_mul] at hl; omega) (fun i hi => by
        have := hp (i + 1) (by simpa using hi)
        rw [Nat.add_mul, Nat.one_mul] at this
        rw [show o + j.size + i * j.size = o + (i * j.size + j.size) by omega]
        simpa using this) h4
      have : cs.drop o = (cs.drop o).take j.size ++ cs.drop (o + j.size) := by
        rw [← List.drop_drop, List.take_append_drop]
      rw [this]
      exact forall₂_append V1 V2
    · cases hf

theorem flat_trod (hT : tysB P T = true) {μ : Mu} : ∀ (n fuel : Nat) (t : TypeId) (i : TyI) (cs : List Value) (y : DataW H × List MemPlace) (as : List AV), T.at t = some i → suppP T n t = true → DataW.trod enc P w base sp held fuel t cs = some y → flatP y.1 = some as → cs.length = i.size ∧ VL μ as cs
  | 0, _, _, _, _, _, _, _, h, _, _ => by simp [suppP] at h
  | n + 1, fuel, t, i, cs, y, as, hi, hs, h, hf => by
    obtain ⟨inf, d, z, K⟩ := tysB_spec hT hi
    have hk := K.k
    unfold suppP at hs
    rw [hi] at hs
    simp only at hs
    split at hs
    · rename_i hik
      rw [hik] at hk; cases d <;> simp [kB] at hk
      simp only [beq_iff_eq] at hs
      obtain ⟨b, rfl, rfl⟩ := DataW.trod_bool K.und h
      simp [flatP] at hf; subst hf
      exact ⟨by simp [hs], .cons rfl .nil⟩
    · rename_i k hik
      rw [hik] at hk; cases d <;> simp [kB] at hk
      subst hk
      simp only [beq_iff_eq] at hs
      obtain ⟨q, rfl, rfl, _⟩ := DataW.trod_int K.und h
      simp [flatP] at hf; subst hf
      exact ⟨by simp [hs], .cons rfl .nil⟩
    · rename_i hik
      rw [hik] at hk; cases d <;> simp [kB] at hk
      simp only [beq_iff_eq] at hs
      obtain ⟨q, rfl, rfl, _⟩ := DataW.trod_string K.und h
      simp [flatP] at hf; subst hf
      refine ⟨by simp [hs], .cons ?_ .nil⟩
      show Value.string q = .string _
      cases q; simp
    · rename_i fs hik
      rw [hik] at hk; cases d <;> simp [kB] at hk
      rename_i gs
      obtain ⟨hk1, hk2⟩ := hk
      obtain ⟨xs, q, _, rfl, hcl, hxl, hp⟩ := DataW.trod_struct K.und h
      rw [K.cellsOf] at hcl
      simp only [flatP] at hf
      refine ⟨hcl, ?_⟩
      have := flat_fields (P := P) (T := T) (w := w) (enc := enc) (n := n) (q := q) (cs := cs) (μ := μ) (fun t i cs y as => flat_trod hT n q t i cs y as) fs 0 i.size xs as hs hcl (by rw [← hk1]; simp [hxl]) (fun j off ft i' hj hi' => by
        obtain ⟨inf2, d2, z2, K2⟩ := tysB_spec hT hi'
        rw [← hk1, List.getElem?_map] at hj
        cases hg : gs.toList[j]? with
        | none => simp [hg] at hj
        | some g =>
          rw [hg] at hj
          simp only [Option.map_some, Option.some.injEq, Prod.mk.injEq] at hj
          obtain ⟨rfl, rfl⟩ := hj
          have := hp j g (by simpa using hg)
          rwa [K2.cellsOf] at this) hf
      simpa using this
    · rename_i m e hik
      rw [hik] at hk; cases d <;> simp [kB] at hk
      obtain ⟨rfl, rfl⟩ := hk
      simp only [Bool.and_eq_true] at hs
      obtain ⟨hs1, hs2⟩ := hs
      split at hs1
      · rename_i j hj
        simp only [beq_iff_eq] at hs1
        obtain ⟨inf2, d2, z2, K2⟩ := tysB_spec hT hj
        obtain ⟨xs, q, _, rfl, hcl, hxl, hp⟩ := DataW.trod_array K.und h
        rw [K.cellsOf] at hcl
        simp only [flatP] at hf
        refine ⟨hcl, ?_⟩
        have := flat_elems (P := P) (T := T) (w := w) (enc := enc) (n := n) (q := q) (cs := cs) (μ := μ) hj hs2 (fun t i cs y as => flat_trod hT n q t i cs y as) xs 0 as (by rw [hxl]; omega) (fun i hi => by
          have := hp i (by omega)
          rw [K2.cellsOf] at this
          simpa using this) hf
        simpa using this
      · cases hs1
    · cases hs

/-- what a listed variable's cells are -/
theorem laid_cells (hT : tysB P T = true) {laid : List (String × DataW Unit)} (hL : laidMetH P laid w) {name : String} {d : DataW Unit} (hm : (name, d) ∈ laid) (hh : d.handleName? = none) {n g : Nat} {t : TypeId} {as : List AV} (hg : P.globalNamed name = some g) (ht : (P.globals[g]?).map (·.type) = some t) (hs : suppP T n t = true) (hf : flatP d = some as) :
    ∃ (c : Array Value) (tt : TypeId) (fr : Nat × Nat), w.heap[g]? = some (.cells c tt fr) ∧ ∀ μ, VL μ as c.toList := by
  obtain ⟨⟨ps, hlv, _⟩, _⟩ := laidMetH_iff.1 hL
  have hm' : (name, d) ∈ laid.filter fun x => x.2.handleName?.isNone := List.mem_filter.2 ⟨hm, by simp [hh]⟩
  obtain ⟨cs, fuel, p, h1, h2⟩ := var_of _ ps hlv hm' hg ht
  have hti : ∃ i, T.at t = some i := by
    cases n with
    | zero => simp [suppP] at hs
    | succ n => unfold suppP at hs; split at hs; exact ⟨_, by assumption⟩; cases hs
  obtain ⟨i, hi⟩ := hti
  unfold World.var? at h1
  rw [hg] at h1
  simp only [Option.bind_some] at h1
  split at h1
  · rename_i c tt fr hc
    cases h1
    exact ⟨_, tt, fr, hc, fun μ => (flat_trod hT n fuel t i _ _ as hi hs h2 hf).2⟩
  · cases h1
where
  var_of {name : String} {d : DataW Unit} {g : Nat} {t : TypeId} : ∀ (l : List (String × DataW Unit)) (ps : List MemPlace), DataW.LaidVars P w l ps → (name, d) ∈ l → P.globalNamed name = some g → (P.globals[g]?).map (·.type) = some t →
      ∃ cs fuel p, w.var? P name = some cs ∧ DataW.trod (fun _ => ()) P w 0 (fun _ => true) false fuel t cs.toList = some (d, p)
    | [], _, _, hm, _, _ => by simp at hm
    | (n', d') :: l, ps, hl, hm, hg, ht => by
      obtain ⟨g', t', cs, fuel, p, q, h1, h2, h3, h4, h5, h6⟩ := hl
      rcases List.mem_cons.1 hm with h | h
      · cases h
        obtain rfl := Option.some.inj (hg.symm.trans h1)
        obtain rfl := Option.some.inj (ht.symm.trans h2)
        exact ⟨cs, fuel, p, h3, h4⟩
      · exact var_of l q h5 h hg ht
end
end Go.Proofs.YtijkkgloennglaaGreatDoor.Ab
