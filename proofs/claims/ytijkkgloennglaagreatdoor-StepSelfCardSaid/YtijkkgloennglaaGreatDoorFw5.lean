/-
  Each step of the abstract machine is one of the model's: the rest of the quiet ones. No condition.
-/
import Derived.Test.YtijkkgloennglaaGreatDoorFw4
set_option linter.all false
namespace Go.Proofs.YtijkkgloennglaaGreatDoor.Ab
open Go Go.RowKit

section
variable {P : Program} {T : Tys} {base : Nat} {μ : Mu} {s : St} {w : World}

theorem kd_und (hT : tysB P T = true) {t : TypeId} {k : TK} (h : T.kd t = some k) : ∃ d, (∀ w, (underlying t).run P w = .ok d w) ∧ P.underlying t = some d ∧ kB k d = true := by
  obtain ⟨i, h1, rfl⟩ := kd_spec h
  obtain ⟨inf, d, z, K⟩ := tysB_spec hT h1
  exact ⟨d, fun w => run_und K w, K.und, K.k⟩

theorem strBin_sound {op : BinOp} {a b : List UInt8} {x : TV} (h : strBin op a b = some x) : ∃ v, (Op.stringOp op ⟨a.toArray⟩ ⟨b.toArray⟩).run P w = .ok v w ∧ VT μ x v := by
  unfold strBin at h
  split at h
  · split at h
    · rename_i hl
      cases h
      refine ⟨.string (⟨a.toArray⟩ ++ ⟨b.toArray⟩), ?_, ?_⟩
      · simp only [Op.stringOp]
        rw [if_neg]
        · rfl
        · simp only [ByteArray.size, List.size_toArray, IntKind.max_i64]; omega
      · have : (⟨a.toArray⟩ ++ ⟨b.toArray⟩ : ByteArray) = ⟨(a ++ b).toArray⟩ := by
          apply ByteArray.ext
          simp
        rw [this]
        rfl
    · cases h
  · cases h; exact ⟨_, rfl, by simp [VT, VA, ByteArray.toList_eq]⟩
  · cases h; exact ⟨_, rfl, by simp [VT, VA, ByteArray.toList_eq]⟩
  · cases h

theorem intBin_sound {op : BinOp} {k : IntKind} {a b : Int} {x : TV} (t : TypeId) (h : intBin op k a b = some x) : ∃ v, (binOp op t (.int k a) (.int k b)).run P w = .ok v w ∧ VT μ x v := by
  unfold intBin at h
  split at h
  all_goals first
    | (cases h; exact ⟨_, by simp [binOp, Op.intArith, Op.intBits, Op.intCmp], rfl⟩)
    | (split at h <;> cases h; rename_i hb; exact ⟨_, by simp [binOp, Op.intDiv, hb], rfl⟩)
    | cases h
theorem shiftBin_sound {op : BinOp} {k k' : IntKind} {a b : Int} {x : TV} (t : TypeId) (hop : op = .shl ∨ op = .shr) (h : shiftBin op k a b = some x) : ∃ v, (binOp op t (.int k a) (.int k' b)).run P w = .ok v w ∧ VT μ x v := by
  unfold shiftBin at h
  split at h
  · cases h
  · rename_i hb
    rcases hop with rfl | rfl
    · simp only [Option.some.injEq] at h; subst h; exact ⟨_, by simp only [binOp, Op.shift]; rw [if_neg hb]; rfl, rfl⟩
    · simp only [Option.some.injEq] at h; subst h; exact ⟨_, by simp only [binOp, Op.shift]; rw [if_neg hb]; rfl, rfl⟩

theorem nilEq_sound {k : TK} {d : TypeDesc} {t : TypeId} {a b : AV} {v u : Value} {r : Bool} (hd : P.underlying t = some d) (hk : kB k d = true) (h : nilEq k a b = some r) (ha : VA μ a v) (hb : VA μ b u) :
    (Op.equal t v u).run P w = .ok r w ∧ binOp .eql t v u = (do pure (.bool (← Op.equal t v u))) ∧ binOp .neq t v u = (do pure (.bool (!(← Op.equal t v u)))) := by
  unfold nilEq at h
  split at h
  · cases ha; cases hb
    cases d <;> simp [kB] at hk
    cases h
    exact ⟨by unfold Op.equal Op.maxDepth; rw [Op.equalIn]; simp only [Sem.run_bind, run_underlying hd, Result.andThen_ok]; rfl, rfl, rfl⟩
  · cases ha; cases hb
    cases d <;> simp [kB] at hk
    cases h
    exact ⟨by unfold Op.equal Op.maxDepth; rw [Op.equalIn]; simp only [Sem.run_bind, run_underlying hd, Result.andThen_ok]; rfl, rfl, rfl⟩
  · cases ha; obtain ⟨m, hm, rfl⟩ := hb
    cases d <;> simp [kB] at hk
    cases h
    exact ⟨by unfold Op.equal Op.maxDepth; rw [Op.equalIn]; simp only [Sem.run_bind, run_underlying hd, Result.andThen_ok]; rfl, rfl, rfl⟩
  · obtain ⟨m, hm, rfl⟩ := ha; cases hb
    cases d <;> simp [kB] at hk
    cases h
    exact ⟨by unfold Op.equal Op.maxDepth; rw [Op.equalIn]; simp only [Sem.run_bind, run_underlying hd, Result.andThen_ok]; rfl, rfl, rfl⟩
  · cases ha; cases hb
    cases d <;> simp [kB] at hk
    cases h
    exact ⟨by unfold Op.equal Op.maxDepth; rw [Op.equalIn]; simp only [Sem.run_bind, run_underlying hd, Result.andThen_ok]; rfl, rfl, rfl⟩
  · cases ha; obtain ⟨m, o, c, hm, rfl, _⟩ := hb
    cases d <;> simp [kB] at hk
    cases h
    exact ⟨by unfold Op.equal Op.maxDepth; rw [Op.equalIn]; simp only [Sem.run_bind, run_underlying hd, Result.andThen_ok]; rfl, rfl, rfl⟩
  · obtain ⟨m, o, c, hm, rfl, _⟩ := ha; cases hb
    cases d <;> simp [kB] at hk
    cases h
    exact ⟨by unfold Op.equal Op.maxDepth; rw [Op.equalIn]; simp only [Sem.run_bind, run_underlying hd, Result.andThen_ok]; rfl, rfl, rfl⟩
  · cases ha; obtain ⟨ad, rfl⟩ := hb
    cases d <;> simp [kB] at hk
    cases h
    exact ⟨by unfold Op.equal Op.maxDepth; rw [Op.equalIn]; simp only [Sem.run_bind, run_underlying hd, Result.andThen_ok]; rfl, rfl, rfl⟩
  · obtain ⟨ad, rfl⟩ := ha; cases hb
    cases d <;> simp [kB] at hk
    cases h
    exact ⟨by unfold Op.equal Op.maxDepth; rw [Op.equalIn]; simp only [Sem.run_bind, run_underlying hd, Result.andThen_ok]; rfl, rfl, rfl⟩
  · cases ha; cases hb
    cases d <;> simp [kB] at hk
    cases h
    exact ⟨by unfold Op.equal Op.maxDepth; rw [Op.equalIn]; simp only [Sem.run_bind, run_underlying hd, Result.andThen_ok]; rfl, rfl, rfl⟩
  · cases ha; obtain ⟨p, q, rfl, _⟩ := hb
    cases d <;> simp [kB] at hk
    cases h
    exact ⟨by unfold Op.equal Op.maxDepth; rw [Op.equalIn]; simp only [Sem.run_bind, run_underlying hd, Result.andThen_ok]; rfl, rfl, rfl⟩
  · obtain ⟨p, q, rfl, _⟩ := ha; cases hb
    cases d <;> simp [kB] at hk
    cases h
    exact ⟨by unfold Op.equal Op.maxDepth; rw [Op.equalIn]; simp only [Sem.run_bind, run_underlying hd, Result.andThen_ok]; rfl, rfl, rfl⟩
  · cases h

theorem eqGuard_leaf (op : BinOp) (t : TypeId) (x y : Operand) {a : AV} {v u : Value} (ha : VA μ a v) : (eqGuard op t x y v u).run P w = .ok () w := by
  have h1 := ha.one
  have h2 : v ≠ .nilIface := by
    intro e; subst e
    cases a with
    | ptr b o => obtain ⟨m, _, e⟩ := ha; cases e
    | sl b off len es cap => obtain ⟨m, o, c, hm, e, _⟩ := ha; cases e
    | map b => obtain ⟨m, hm, e⟩ := ha; cases e
    | fn f ps qs => obtain ⟨p, q, e, _⟩ := ha; cases e
    | emp => obtain ⟨ad, e⟩ := ha; cases e
    | _ => cases ha
  cases v <;> first
    | exact absurd rfl h2
    | (simp [Value.oneCell'] at h1; done)
    | (unfold eqGuard; cases op <;> rfl)

theorem good_bin (hT : tysB P T = true) (R : Rel base μ s w.heap) {op : BinOp} {t : TypeId} {x y r : TV} {v u : Value} (o1 o2 : Operand) (hx : VT μ x v) (hy : VT μ y u) (h : binA T op t x y = some r) :
    Good P base μ s w (do eqGuard op t o1 o2 v u; binOp op t v u) r s := by
  unfold binA at h
  split at h
  · rename_i k a k' b
    cases hx; cases hy
    have hg := eqGuard_leaf (P := P) (w := w) (μ := μ) op t o1 o2 (u := .int k' b) (a := .int k a) rfl
    split at h
    · obtain ⟨z, h1, h2⟩ := shiftBin_sound (P := P) (w := w) (μ := μ) (k' := k') t (.inl rfl) h
      exact Good.now R (by simp [hg, h1]) h2
    · obtain ⟨z, h1, h2⟩ := shiftBin_sound (P := P) (w := w) (μ := μ) (k' := k') t (.inr rfl) h
      exact Good.now R (by simp [hg, h1]) h2
    · split at h
      · rename_i hk; subst hk
        obtain ⟨z, h1, h2⟩ := intBin_sound (P := P) (w := w) (μ := μ) t h
        exact Good.now R (by simp [hg, h1]) h2
      · cases h
  · rename_i a b
    cases hx; cases hy
    have hg := eqGuard_leaf (P := P) (w := w) (μ := μ) op t o1 o2 (u := .string ⟨b.toArray⟩) (a := .str a) rfl
    obtain ⟨z, h1, h2⟩ := strBin_sound (P := P) (w := w) (μ := μ) h
    refine Good.now R (v := z) ?_ h2
    rw [Sem.run_bind, hg, Result.andThen_ok, ← h1]
    cases op <;> rfl
  · rename_i a b hn1 hn2
    have hg := eqGuard_leaf (P := P) (w := w) op t o1 o2 (u := u) hx
    split at h
    · rename_i i hi
      obtain ⟨inf, d, z, K⟩ := tysB_spec hT hi
      split at h
      · cases hr : nilEq i.k a b with
        | none => simp [hr] at h
        | some r' =>
          simp [hr] at h; subst h
          obtain ⟨he, e1, _⟩ := nilEq_sound (P := P) (w := w) K.und K.k hr hx hy
          refine Good.now R (v := .bool r') ?_ rfl
          rw [Sem.run_bind, hg, Result.andThen_ok, e1]
          simp [he]
      · cases hr : nilEq i.k a b with
        | none => simp [hr] at h
        | some r' =>
          simp [hr] at h; subst h
          obtain ⟨he, _, e1⟩ := nilEq_sound (P := P) (w := w) K.und K.k hr hx hy
          refine Good.now R (v := .bool (!r')) ?_ rfl
          rw [Sem.run_bind, hg, Result.andThen_ok, e1]
          simp [he]
      · cases h
    · cases h
  · cases h

theorem good_un (R : Rel base μ s w.heap) {op : UnOp} {x r : TV} {v : Value} (hx : VT μ x v) (h : unA op x = some r) : Good P base μ s w (Op.unary op v) r s := by
  unfold unA at h
  split at h
  · cases h; cases hx; exact Good.now R (by simp [Op.unary, Op.intArith]) rfl
  · cases h; cases hx; exact Good.now R (by simp [Op.unary]) rfl
  · cases h

theorem good_fieldAddr (hT : tysB P T = true) (R : Rel base μ s w.heap) {st : TypeId} {fs : List (Nat × Nat)} {f b off fo ft : Nat} {i : TyI} {v : Value}
    (hs : T.kd st = some (.struct fs)) (hx : VT μ (.v (.ptr b off)) v) (hf : fs[f]? = some (fo, ft)) (hi : T.at ft = some i) (hz : i.size ≠ 0) : Good P base μ s w (Instr.fieldAt st v f) (.v (.ptr b (off + fo))) s := by
  obtain ⟨d, hrun, hu, hk⟩ := kd_und hT hs
  obtain ⟨inf, d', z, K⟩ := tysB_spec hT hi
  cases d <;> simp [kB] at hk
  rename_i gs
  obtain ⟨e, _⟩ := hk
  obtain ⟨m, hm, rfl⟩ := hx
  rw [← e] at hf
  simp only [List.getElem?_map, Array.getElem?_toList, Option.map_eq_some_iff, Prod.mk.injEq] at hf
  obtain ⟨g, hg, rfl, rfl⟩ := hf
  refine Good.now R (v := .pointer (some ⟨m.blk, m.sh + (off + g.offset), none⟩)) ?_ ⟨m, hm, rfl⟩
  simp [Instr.fieldAt, hrun, hg, Instr.sureAddr, fieldPlace, run_size K, hz, Addr.add_lit, Nat.add_assoc]

theorem part_sound (hT : tysB P T = true) {ft off : Nat} {i : TyI} {cs : List AV} {l : List Value} {r : TV} (hi : T.at ft = some i) (H : VL μ cs l) (hr : i.wrap ((cs.drop off).take i.size) = some r) :
    ∃ v, (part ft l.toArray off).run P w = .ok v w ∧ VT μ r v := by
  obtain ⟨inf, d, z, K⟩ := tysB_spec hT hi
  have H' := forall₂_take (forall₂_drop H off) i.size
  have hl := forall₂_length H
  rcases wrap_sound hr H' with ⟨ha, h2⟩ | ⟨ha, v, e, h2⟩
  · refine ⟨_, ?_, h2⟩
    simp only [part, Sem.run_bind, run_agg K, ha, Result.andThen_ok, if_true, run_size K, Sem.run_pure]
    congr 2
    apply Array.ext'
    simp [List.take_drop]
  · refine ⟨v, ?_, h2⟩
    have h0 : l[off]? = some v := by
      have : ((l.drop off).take i.size)[0]? = some v := by rw [e]; rfl
      have hpos : 0 < i.size := by
        rcases Nat.eq_zero_or_pos i.size with h | h
        · rw [h] at e; simp at e
        · exact h
      rw [List.getElem?_take_of_lt hpos, List.getElem?_drop] at this
      simpa using this
    simp [part, run_agg K, ha, h0]

theorem good_field (hT : tysB P T = true) (R : Rel base μ s w.heap) {st : TypeId} {fs : List (Nat × Nat)} {f fo ft : Nat} {i : TyI} {v : Value} {cs : List AV} {r : TV}
    (hs : T.kd st = some (.struct fs)) (hx : VT μ (.agg cs) v) (hf : fs[f]? = some (fo, ft)) (hi : T.at ft = some i) (hr : i.wrap ((cs.drop fo).take i.size) = some r) : Good P base μ s w (Instr.field st v f) r s := by
  obtain ⟨d, hrun, hu, hk⟩ := kd_und hT hs
  cases d <;> simp [kB] at hk
  rename_i gs
  obtain ⟨e, _⟩ := hk
  obtain ⟨l, rfl, H⟩ := hx
  rw [← e] at hf
  simp only [List.getElem?_map, Array.getElem?_toList, Option.map_eq_some_iff, Prod.mk.injEq] at hf
  obtain ⟨g, hg, rfl, rfl⟩ := hf
  obtain ⟨v, h1, h2⟩ := part_sound (P := P) (w := w) hT hi H hr
  exact Good.now R (by simp [Instr.field, hrun, hg, asAgg, h1]) h2

theorem good_indexSlice (hT : tysB P T = true) (R : Rel base μ s w.heap) {t et : TypeId} {ti : TyI} {b off len es : Nat} {cap : Option Nat} {k : IntKind} {i : Int} {v u : Value}
    (ht : T.kd t = some (.slice et)) (hx : VT μ (.v (.sl b off len es cap)) v) (hi : VT μ (.v (.int k i)) u) (he : T.at et = some ti) (hes : ti.size = es) (h0 : 0 ≤ i) (h1 : i < len) :
    Good P base μ s w (Instr.indexAt t v u) (.v (.ptr b (off + i.toNat * es))) s := by
  obtain ⟨d, hrun, hu, hk⟩ := kd_und hT ht
  obtain ⟨inf, d', z, K⟩ := tysB_spec hT he
  cases d <;> simp [kB] at hk
  subst hk
  cases hi
  obtain ⟨m, o, c, hm, rfl, ho, _⟩ := hx
  have hlen : len ≠ 0 := by omega
  obtain rfl := ho hlen
  refine Good.now R (v := .pointer (some ⟨m.blk, m.sh + (off + i.toNat * es), none⟩)) ?_ ⟨m, hm, rfl⟩
  simp [Instr.indexAt, asIntOf, hrun, h0, h1, run_size K, hes, Addr.add_lit, Nat.add_assoc]
theorem good_indexArr (hT : tysB P T = true) (R : Rel base μ s w.heap) {t et : TypeId} {ti : TyI} {n b off : Nat} {k : IntKind} {i : Int} {v u : Value}
    (ht : T.kd t = some (.arr n et)) (hx : VT μ (.v (.ptr b off)) v) (hi : VT μ (.v (.int k i)) u) (he : T.at et = some ti) (h0 : 0 ≤ i) (h1 : i < n) :
    Good P base μ s w (Instr.indexAt t v u) (.v (.ptr b (off + i.toNat * ti.size))) s := by
  obtain ⟨d, hrun, hu, hk⟩ := kd_und hT ht
  obtain ⟨inf, d', z, K⟩ := tysB_spec hT he
  cases d <;> simp [kB] at hk
  obtain ⟨rfl, rfl⟩ := hk
  cases hi
  obtain ⟨m, hm, rfl⟩ := hx
  refine Good.now R (v := .pointer (some ⟨m.blk, m.sh + (off + i.toNat * ti.size), none⟩)) ?_ ⟨m, hm, rfl⟩
  simp [Instr.indexAt, asIntOf, hrun, Instr.sureAddr, h0, h1, run_size K, Addr.add_lit, Nat.add_assoc]

theorem good_indexStr (hT : tysB P T = true) (R : Rel base μ s w.heap) {t : TypeId} {l : List UInt8} {k : IntKind} {i : Int} {c : UInt8} {v u : Value}
    (ht : T.kd t = some .str) (hx : VT μ (.v (.str l)) v) (hi : VT μ (.v (.int k i)) u) (h0 : 0 ≤ i) (hc : l[i.toNat]? = some c) :
    Good P base μ s w (Instr.index t v u) (.v (.int .u8 c.toNat)) s := by
  obtain ⟨d, hrun, hu, hk⟩ := kd_und hT ht
  cases d <;> simp [kB] at hk
  cases hi; cases hx
  have hlt : i.toNat < l.length := by
    rcases Nat.lt_or_ge i.toNat l.length with h | h
    · exact h
    · rw [List.getElem?_eq_none h] at hc; cases hc
  refine Good.now R (v := .int .u8 c.toNat) ?_ rfl
  have hb : (⟨l.toArray⟩ : ByteArray)[i.toNat]? = some c := by
    rw [getElem?_pos (⟨l.toArray⟩ : ByteArray) i.toNat (show i.toNat < (⟨l.toArray⟩ : ByteArray).size by simpa [ByteArray.size] using hlt)]
    rw [List.getElem?_eq_getElem hlt] at hc
    exact hc
  simp [Instr.index, asIntOf, hrun, h0, hb]
theorem good_indexAgg (hT : tysB P T = true) (R : Rel base μ s w.heap) {t et : TypeId} {ti : TyI} {n : Nat} {cs : List AV} {k : IntKind} {i : Int} {v u : Value} {r : TV}
    (ht : T.kd t = some (.arr n et)) (hx : VT μ (.agg cs) v) (hi : VT μ (.v (.int k i)) u) (he : T.at et = some ti) (h0 : 0 ≤ i) (h1 : i < n) (hr : ti.wrap ((cs.drop (i.toNat * ti.size)).take ti.size) = some r) :
    Good P base μ s w (Instr.index t v u) r s := by
  obtain ⟨d, hrun, hu, hk⟩ := kd_und hT ht
  obtain ⟨inf, d', z, K⟩ := tysB_spec hT he
  cases d <;> simp [kB] at hk
  obtain ⟨rfl, rfl⟩ := hk
  cases hi
  obtain ⟨l, rfl, H⟩ := hx
  obtain ⟨v, h2, h3⟩ := part_sound (P := P) (w := w) hT he H hr
  exact Good.now R (by simp [Instr.index, asIntOf, hrun, h0, h1, run_size K, h2]) h3
end
end Go.Proofs.YtijkkgloennglaaGreatDoor.Ab
