/-
  Each step of the abstract machine is one of the model's: append, the rest, and all together. No condition.
-/
import Derived.Test.YtijkkgloennglaaGreatDoorFw6
set_option linter.all false
namespace Go.Proofs.YtijkkgloennglaaGreatDoor.Ab
open Go Go.RowKit

section
variable {P : Program} {T : Tys} {base : Nat} {μ : Mu} {s : St} {w : World}

/-- the model's append, where there is room -/
theorem run_append_in (t t' ty e : TypeId) (ts : Array TypeId) (h0 : ts[0]? = some t) (h1 : ts[1]? = some t') (inf : TypeInfo) (ht : P.underlying t = some (.slice e)) (ht' : (∃ e', P.underlying t' = some (.slice e')) ∨ P.underlying t' = some .string) (hi : P.info? e = some inf)
    (a : Addr) (sLen sCap n : Nat) (x : Value) (new : Array Value) (hl : (Builtin.lenOf x).run P w = .ok n w) (hf : (Builtin.firstCells inf.size n x).run P w = .ok new w) (hroom : sLen + n ≤ sCap) (w' : World)
    (hst : (storeCells (a.add (sLen * inf.size)) new.toList).run P w = .ok () w') :
    (Builtin.append_ ts ty #[.slice (some a) sLen sCap, x]).run P w = .ok (.slice (some a) (sLen + n) sCap) w' := by
  rcases ht' with ⟨e', ht'⟩ | ht' <;> simp [Builtin.append_, h0, h1, run_underlying ht, run_underlying ht', sizeOf, typeInfo, hi, hl, hroom, hf, hst]
theorem run_append_in_nil (t t' ty e : TypeId) (ts : Array TypeId) (h0 : ts[0]? = some t) (h1 : ts[1]? = some t') (inf : TypeInfo) (ht : P.underlying t = some (.slice e)) (ht' : (∃ e', P.underlying t' = some (.slice e')) ∨ P.underlying t' = some .string) (hi : P.info? e = some inf)
    (x : Value) (new : Array Value) (hl : (Builtin.lenOf x).run P w = .ok 0 w) (hf : (Builtin.firstCells inf.size 0 x).run P w = .ok new w) :
    (Builtin.append_ ts ty #[.slice none 0 0, x]).run P w = .ok (.slice none 0 0) w := by
  rcases ht' with ⟨e', ht'⟩ | ht' <;> simp [Builtin.append_, h0, h1, run_underlying ht, run_underlying ht', sizeOf, typeInfo, hi, hl, hf]

/-- where there is none -/
theorem run_append_out (t t' ty e : TypeId) (ts : Array TypeId) (h0 : ts[0]? = some t) (h1 : ts[1]? = some t') (inf : TypeInfo) (z : Value) (ht : P.underlying t = some (.slice e)) (ht' : (∃ e', P.underlying t' = some (.slice e')) ∨ P.underlying t' = some .string) (hi : P.info? e = some inf) (hz : inf.zero = some z)
    (a : Option Addr) (sLen sCap n : Nat) (x : Value) (old new : Array Value) (hl : (Builtin.lenOf x).run P w = .ok n w) (ho : (Builtin.firstCells inf.size sLen (.slice a sLen sCap)).run P w.drew = .ok old w.drew) (hf : (Builtin.firstCells inf.size n x).run P w.drew = .ok new w.drew)
    (hroom : sCap < sLen + n) (hb : inf.bytes ≠ 0) (hfit : (sLen + n) * inf.bytes ≤ 1099511627776) :
    (Builtin.append_ ts ty #[.slice a sLen sCap, x]).run P w =
      .ok (.slice (some ⟨w.heap.size, 0, none⟩) (sLen + n) (grownCap w (sLen + n) sCap e)) (w.drew.alloc (.cells (old ++ new ++ Builtin.zeroCells z.cells (grownCap w (sLen + n) sCap e - (sLen + n))) e)) := by
  have hn : ¬ (sLen + n ≤ sCap) := by omega
  have h48 := growslice_fits (need := sLen + n) (old := sCap) (bytes := inf.bytes) hroom (by omega)
  have h48' : ¬ (281474976710656 < Builtin.nextslicecap (sLen + n) sCap * inf.bytes) := by omega
  rcases ht' with ⟨e', ht'⟩ | ht' <;>
    simp [Builtin.append_, h0, h1, run_underlying ht, run_underlying ht', sizeOf, typeInfo, zeroValue, hi, hz, hl, hn, hb, h48', Question.forced, hf, ho, newRow, grownCap]

/-- a slice's (a string's) elements, as the model reads them -/
theorem src_sound (hT : tysB P T = true) (R : Rel base μ s w.heap) {e : TypeId} {i : TyI} {inf : TypeInfo} (hi : T.at e = some i) (hinf : P.info? e = some inf) {y : TV} {yv : Value} {n : Nat} {new : List AV} (hy : VT μ y yv)
    (h : srcA i s y = some (n, new)) :
    (Builtin.lenOf yv).run P w = .ok n w ∧ ∃ nv : List Value, VL μ new nv ∧ new.length = n * i.size ∧ ∀ w1 : World, w1.heap = w.heap → (Builtin.firstCells inf.size n yv).run P w1 = .ok nv.toArray w1 := by
  obtain ⟨inf', d, z, K⟩ := tysB_spec hT hi
  obtain rfl := Option.some.inj (hinf.symm.trans K.info)
  rw [K.size]
  unfold srcA at h
  split at h
  · cases h; cases hy
    exact ⟨by simp [Builtin.lenOf], [], .nil, by simp, fun w1 _ => by simp [Builtin.firstCells]⟩
  · cases h
    obtain ⟨a, rfl⟩ := hy
    exact ⟨by simp [Builtin.lenOf], [], .nil, by simp, fun w1 _ => by simp [Builtin.firstCells, loadCells, loadCellsFrom]⟩
  · rename_i b off len es cap
    obtain ⟨m, o, c, hm, rfl, ho, hlc, hcap, hsz⟩ := hy
    split at h
    · rename_i hes
      split at h
      · rename_i hl0
        cases h
        subst hl0
        exact ⟨by simp [Builtin.lenOf], [], .nil, by simp, fun w1 _ => by simp [Builtin.firstCells, loadCells, loadCellsFrom]⟩
      · rename_i hl0
        split at h
        · rename_i cs hcs
          split at h
          · rename_i hle
            cases h
            obtain rfl := ho hl0
            obtain ⟨l, h1, h2, h3⟩ := R.loads (P := P) hcs hm hle
            refine ⟨by simp [Builtin.lenOf], l, h2, ?_, fun w1 hw => ?_⟩
            · rw [← hes]; simp; omega
            · rw [← hes]; simp only [Builtin.firstCells]; exact (h3 w1 hw).2
          · cases h
        · cases h
    · cases h
  · rename_i l
    cases hy
    split at h
    · rename_i hc
      cases h
      have hsz : (⟨l.toArray⟩ : ByteArray).size = l.length := by simp [ByteArray.size]
      refine ⟨by simp [Builtin.lenOf, hsz], l.map fun c => .int .u8 c.toNat, ?_, by simp [hc.2], fun w1 _ => ?_⟩
      · refine forall₂_of_get (by simp) ?_
        intro j a hj
        simp only [List.getElem?_map, Option.map_eq_some_iff] at hj ⊢
        obtain ⟨q, hq, rfl⟩ := hj
        exact ⟨_, ⟨q, hq, rfl⟩, rfl⟩
      · have : ((⟨l.toArray⟩ : ByteArray).extract 0 l.length) = ⟨l.toArray⟩ := by
          have e := Lib.extract_toList (⟨l.toArray⟩ : ByteArray) 0 l.length
          rw [ByteArray.toList_eq] at e
          apply ByteArray.ext
          apply Array.ext'
          rw [e]; simp
        simp [Builtin.firstCells, this]
    · cases h
  · cases h

theorem good_append (hT : tysB P T = true) (R : Rel base μ s w.heap) {t t' ty : TypeId} {ts : Array TypeId} (h0 : ts[0]? = some t) (h1 : ts[1]? = some t') {x y r : TV} {xv yv : Value} {s' : St} (ht' : (∃ e', P.underlying t' = some (.slice e')) ∨ P.underlying t' = some .string)
    (hx : VT μ x xv) (hy : VT μ y yv) (h : appendA T t x y s = some (r, s')) : Good P base μ s w (Builtin.append_ ts ty #[xv, yv]) r s' := by
  unfold appendA at h
  split at h
  · rename_i e hk
    obtain ⟨d, hrun, hu, hkb⟩ := kd_und hT hk
    cases d <;> simp [kB] at hkb
    subst hkb
    split at h
    · rename_i i hi
      obtain ⟨inf, d2, z, K⟩ := tysB_spec hT hi
      split at h
      · rename_i n new hsrc
        obtain ⟨hlen, nv, hnv, hnl, hnew⟩ := src_sound hT R hi K.info hy hsrc
        have hnvl := forall₂_length hnv
        split at h
        · rename_i hn
          subst hn
          have hnv0 : nv = [] := by simp at hnl; subst hnl; cases hnv; rfl
          subst hnv0
          split at h
          · cases h
            cases hx
            exact Good.now R (run_append_in_nil t t' ty e ts h0 h1 inf hu ht' K.info yv _ hlen (hnew w rfl)) rfl
          · cases h
            obtain ⟨ad, rfl⟩ := hx
            exact Good.now R (run_append_in (w := w) (w' := w) t t' ty e ts h0 h1 inf hu ht' K.info ad 0 0 0 yv _ hlen (hnew w rfl) (by omega) (by simp [storeCells])) ⟨ad, rfl⟩
          · rename_i b off len es cap
            split at h
            · cases h
              obtain ⟨m, o, c, hm, rfl, ho, hlc, hcap, hsz⟩ := hx
              have := run_append_in (w := w) (w' := w) t t' ty e ts h0 h1 inf hu ht' K.info ⟨m.blk, o, none⟩ len c 0 yv _ hlen (hnew w rfl) (by omega) (by simp [storeCells])
              exact Good.now R this ⟨m, o, c, hm, rfl, ho, hlc, hcap, hsz⟩
            · cases h
          · cases h
        · rename_i hn
          split at h
          · cases h
          · rename_i hc
            have hb0 : inf.bytes ≠ 0 := by rw [K.bytes]; exact fun x => hc (.inl x)
            have hs0 : i.size ≠ 0 := fun x => hc (.inr (.inl x))
            have hnb : n * i.bytes ≤ 1099511627776 := Decidable.byContradiction fun x => hc (.inr (.inr (by omega)))
            -- the new array
            have grow : ∀ (a : Option Addr) (sLen sCap : Nat) (old : List AV) (ov : List Value), VL μ old ov → old.length = sLen * i.size → sCap < sLen + n → (sLen + n) * i.bytes ≤ 1099511627776 →
                (∀ w1 : World, w1.heap = w.heap → (Builtin.firstCells inf.size sLen (.slice a sLen sCap)).run P w1 = .ok ov.toArray w1) → ∀ s1 : St, s1.gl = s.gl → Rel base μ s1 w.heap → s1.next = s.next → (∀ b, μ b = none → s1.get b = s.get b) →
                Good P base μ s w (Builtin.append_ ts ty #[.slice a sLen sCap, yv]) (.v (.sl s.next 0 (sLen + n) i.size none)) (s1.new ⟨true, .cells (old ++ new)⟩) := by
              intro a sLen sCap old ov hov hol hcap hfit hold s1 hgl R1 hnx hpend
              have hovl := forall₂_length hov
              have hrun := run_append_out (w := w) t t' ty e ts h0 h1 inf z hu ht' K.info K.zero a sLen sCap n yv ov.toArray nv.toArray hlen (hold w.drew rfl) (hnew w.drew rfl) hcap hb0 (by rw [K.bytes]; exact hfit)
              have hall := forall₂_append hov hnv
              have R2 : Rel base μ s1 w.drew.heap := R1
              obtain ⟨g1, g2⟩ := R2.newCells (old ++ new) (ov ++ nv ++ (Builtin.zeroCells z.cells (grownCap w (sLen + n) sCap e - (sLen + n))).toList) e (by rw [forall₂_length hall, List.take_left']; exact hall; rfl) (by simp; omega)
              have hww : w.drew.alloc (.cells (ov ++ nv ++ (Builtin.zeroCells z.cells (grownCap w (sLen + n) sCap e - (sLen + n))).toList).toArray e) = w.drew.alloc (.cells (ov.toArray ++ nv.toArray ++ Builtin.zeroCells z.cells (grownCap w (sLen + n) sCap e - (sLen + n))) e) := by
                congr 2
                apply Array.ext'
                simp
              rw [hww] at g1 g2
              have hzl : z.cells.size = i.size := by have := forall₂_length (K.zc μ); simp at this; rw [← K.zl]; omega
              have hge : sLen + n ≤ grownCap w (sLen + n) sCap e := by simp [grownCap, Question.cut]
              refine ⟨_, _, _, hrun, ?_, g1, ?_⟩
              · rw [hnx]
                refine ⟨_, 0, grownCap w (sLen + n) sCap e, Mu.set_self _ _ _, rfl, fun _ => by simp, hge, (fun k hk => by cases hk), ?_⟩
                have hz2 : (Builtin.zeroCells z.cells (grownCap w (sLen + n) sCap e - (sLen + n))).size = (grownCap w (sLen + n) sCap e - (sLen + n)) * i.size := by simp [Builtin.zeroCells, hzl]
                have h1 : (sLen + n) * i.size + (grownCap w (sLen + n) sCap e - (sLen + n)) * i.size = grownCap w (sLen + n) sCap e * i.size := by rw [← Nat.add_mul]; congr 1; omega
                have h2 : (sLen + n) * i.size = sLen * i.size + n * i.size := Nat.add_mul _ _ _
                simp only [List.length_append, Array.length_toList, hz2]
                omega
              · refine ⟨g2.mu, ⟨g2.below.os, g2.below.tape, g2.below.output, g2.below.size, g2.below.block⟩, by have := g2.next; omega, fun b hb hm => ?_, g2.gl.trans hgl⟩
                obtain ⟨p1, p2⟩ := g2.pend b (by omega) hm
                exact ⟨p1, p2.trans (hpend b hm)⟩
            unfold moreA at h
            split at h
            · cases h
              cases hx
              have := grow none 0 0 [] [] .nil (by simp) (by omega) (by simpa using hnb) (fun w1 _ => by simp [Builtin.firstCells]) s rfl R rfl (fun _ _ => rfl)
              simpa using this
            · cases h
              obtain ⟨ad, rfl⟩ := hx
              have := grow (some ad) 0 0 [] [] .nil (by simp) (by omega) (by simpa using hnb) (fun w1 _ => by simp [Builtin.firstCells, loadCells, loadCellsFrom]) s rfl R rfl (fun _ _ => rfl)
              simpa using this
            · rename_i b off len es cap
              obtain ⟨m, o, c, hm, rfl, ho, hlc, hcap, hsz⟩ := hx
              split at h
              · cases h
              · rename_i hc2
                have hes : es = i.size := Decidable.byContradiction fun x => hc2 (.inl x)
                have hfit : (len + n) * i.bytes ≤ 1099511627776 := Decidable.byContradiction fun x => hc2 (.inr (by omega))
                subst hes
                have main : ∀ old, oldA s b off len i.size = some old → Good P base μ s w (Builtin.append_ ts ty #[.slice (some ⟨m.blk, o, none⟩) len c, yv]) r s' := by
                  intro old hold
                  have hold2 := hold
                  have oldv : ∃ ov : List Value, VL μ old ov ∧ old.length = len * i.size ∧ ∀ (cc : Nat) (w1 : World), w1.heap = w.heap → (Builtin.firstCells inf.size len (.slice (some ⟨m.blk, o, none⟩) len cc)).run P w1 = .ok ov.toArray w1 := by
                    unfold oldA at hold
                    split at hold
                    · rename_i hl0
                      cases hold
                      subst hl0
                      exact ⟨[], .nil, by simp, fun cc w1 _ => by simp [Builtin.firstCells, loadCells, loadCellsFrom]⟩
                    · rename_i hl0
                      split at hold
                      · rename_i cs hcs
                        split at hold
                        · rename_i hle
                          cases hold
                          obtain rfl := ho hl0
                          obtain ⟨l, h1, h2, h3⟩ := R.loads (P := P) hcs hm hle
                          refine ⟨l, h2, by simp; omega, fun cc w1 hw => ?_⟩
                          rw [K.size]; simp only [Builtin.firstCells]; exact (h3 w1 hw).2
                        · cases hold
                      · cases hold
                  obtain ⟨ov, hov, hol, hor⟩ := oldv
                  have hovl := forall₂_length hov
                  rw [hold2] at h
                  unfold oldA at hold
                  cases cap with
                  | some c' =>
                    simp only at h
                    split at h
                    · cases h
                    · rename_i hroom
                      cases h
                      have := hcap c' rfl
                      exact grow _ len c old ov hov hol (by omega) hfit (hor c) s rfl R rfl (fun _ _ => rfl)
                  | none =>
                    simp only at h
                    split at h
                    · rename_i cs0 hown
                      cases h
                      have hg := St.ownCells_get hown
                      replace hsz := hsz rfl
                      by_cases hroom : len + n ≤ c
                      · -- in place
                        obtain ⟨cc, tt, fr, q1, q2, q3, q4, q5⟩ := R.blk b _ m hg hm
                        have hfr := q5 rfl
                        subst hfr
                        obtain ⟨own1, own2⟩ := R.own b _ m hg rfl hm
                        have hle : (len + n) * i.size ≤ c * i.size := Nat.mul_le_mul_right _ hroom
                        rw [Nat.add_mul] at hle
                        have hone := hnv.one
                        have hst := run_storeCells_at P m.blk (o + len * i.size) tt nv 0 cc w q1 (by omega) hone
                        simp only [Nat.add_zero] at hst
                        have hrun := run_append_in (w := w) t t' ty e ts h0 h1 inf hu ht' K.info ⟨m.blk, o, none⟩ len c n yv nv.toArray hlen (hnew w rfl) hroom _ (by rw [Addr.add_lit, K.size]; exact hst)
                        generalize hw2 : w.setRow m.blk (cc.toList.take (o + len * i.size) ++ nv ++ cc.toList.drop (o + len * i.size + nv.length)).toArray = w2 at hrun
                        have hheap : w2.heap[m.blk]? = some (.cells (cc.toList.take (o + len * i.size) ++ nv ++ cc.toList.drop (o + len * i.size + nv.length)).toArray tt (0, 0)) := by rw [← hw2]; exact setRow_heap w m.blk cc _ tt (0, 0) q1
                        have hoth : ∀ x, x ≠ m.blk → w2.heap[x]? = w.heap[x]? := fun x hx => by rw [← hw2]; exact setRow_other w m.blk x _ hx
                        have hsize : w2.heap.size = w.heap.size := by rw [← hw2]; exact heap_setRow _ _ _
                        have hle' : μ.le (μ.set s.next ⟨m.blk, o, m.csz⟩) := fun b' m' hb' => by
                          have := (R.dom b' m' hb').1
                          simp only [Mu.set]; rw [if_neg (by omega)]; exact hb'
                        have hbn : b < s.next := (R.dom b m hm).1
                        refine ⟨μ.set s.next ⟨m.blk, o, m.csz⟩, w2, _, hrun, ⟨_, o, c, Mu.set_self _ _ _, rfl, fun _ => by simp, hroom, (fun k hk => by cases hk), fun _ => hsz⟩, ⟨?_, ?_, ?_, ?_, ?_, ?_⟩, ⟨hle', ?_, by simp, ?_, rfl⟩⟩
                        · intro b' m' hb'
                          simp only [Mu.set] at hb'
                          split at hb'
                          · rename_i e'; subst e'; cases hb'; exact ⟨by simp, by have := (R.dom b m hm).2; simp; omega⟩
                          · have := R.dom b' m' hb'; exact ⟨by simp; omega, by omega⟩
                        · intro b' B' m' hb' hm'
                          simp only [Mu.set] at hm'
                          rw [St.get_delnew] at hb'
                          split at hm'
                          · rename_i e'
                            rw [if_pos e'] at hb'
                            cases hb'; cases hm'
                            have hlen2 : (old ++ new).length = len * i.size + n * i.size := by simp; omega
                            refine ⟨_, tt, (0, 0), hheap, by simp; omega, by simp; omega, ?_, fun _ => rfl⟩
                            intro j a hj
                            simp only [List.getElem?_toArray]
                            by_cases hjl : j < old.length
                            · rw [List.getElem?_append_left hjl] at hj
                              obtain ⟨v, hv, hr⟩ := forall₂_get hov j a hj
                              refine ⟨v, ?_, hr.mono hle'⟩
                              rw [List.append_assoc, List.getElem?_append_left (by simp; omega), List.getElem?_take_of_lt (by omega)]
                              have hl0 : len ≠ 0 := by intro h0; rw [h0] at hol; simp at hol; rw [hol] at hjl; simp at hjl
                              rw [if_neg hl0] at hold
                              split at hold
                              · rename_i cs hcs
                                obtain ⟨own', hg'⟩ := St.cells_get hcs
                                rw [hg] at hg'
                                cases hg'
                                split at hold
                                · cases hold
                                  have ho' := ho hl0
                                  rw [List.getElem?_take_of_lt (by simp at hjl; omega), List.getElem?_drop] at hj
                                  obtain ⟨v', hv', hr'⟩ := q4 _ _ hj
                                  have hov2 : ov[j]? = cc.toList[o + j]? := by
                                    have hrr := hor c w rfl
                                    obtain ⟨l, g1, g2, g3⟩ := R.loads (P := P) hcs hm (off := off) (n := len * i.size) (by assumption)
                                    have hr3 := (g3 w rfl).2
                                    rw [K.size] at hrr
                                    simp only [Builtin.firstCells] at hrr
                                    rw [ho'] at hrr
                                    rw [hr3] at hrr
                                    simp only [Result.ok.injEq, and_true] at hrr
                                    have hlo : l = ov := by simpa using congrArg Array.toList hrr
                                    subst hlo
                                    have h9 := (g3 w rfl).1 j v hv
                                    rw [Addr.add_lit, cell_of q1] at h9
                                    rw [hv, ho']
                                    simpa using h9.symm
                                  rw [← hov2]; exact hv
                                · cases hold
                              · cases hold
                            · rw [List.getElem?_append_right (by omega)] at hj
                              obtain ⟨v, hv, hr⟩ := forall₂_get hnv _ a hj
                              refine ⟨v, ?_, hr.mono hle'⟩
                              have hjn : j - old.length < nv.length := by
                                rcases Nat.lt_or_ge (j - old.length) nv.length with h | h
                                · exact h
                                · rw [List.getElem?_eq_none h] at hv; cases hv
                              rw [List.append_assoc, List.getElem?_append_right (by simp; omega)]
                              simp only [List.length_take, Array.length_toList]
                              rw [Nat.min_eq_left (by omega), List.getElem?_append_left (by omega)]
                              rw [show o + j - (o + len * i.size) = j - old.length by omega]; exact hv
                          · rename_i e'
                            rw [if_neg e'] at hb'
                            split at hb'
                            · cases hb'
                            · rename_i e2
                              have hne := own2 b' m' e2 (by rw [hb']; rfl) hm'
                              exact BRel.mono hle' (hoth _ hne) (R.blk b' B' m' hb' hm')
                        · intro b' B' m' hb' ho' hm'
                          simp only [Mu.set] at hm'
                          rw [St.get_delnew] at hb'
                          split at hm'
                          · rename_i e'
                            cases hm'
                            refine ⟨own1, fun b2 m2 hne hs2 hm2 => ?_⟩
                            simp only [Mu.set] at hm2
                            rw [if_neg (by omega)] at hm2
                            rw [St.get_delnew] at hs2
                            rw [if_neg (by omega)] at hs2
                            split at hs2
                            · simp at hs2
                            · rename_i e3; exact own2 b2 m2 e3 hs2 hm2
                          · rename_i e'
                            rw [if_neg e'] at hb'
                            split at hb'
                            · cases hb'
                            · rename_i e2
                              obtain ⟨r1, r2⟩ := R.own b' B' m' hb' ho' hm'
                              refine ⟨r1, fun b2 m2 hne hs2 hm2 => ?_⟩
                              simp only [Mu.set] at hm2
                              split at hm2
                              · cases hm2
                                exact fun he => own2 b' m' e2 (by rw [hb']; rfl) hm' he.symm
                              · rename_i e3
                                rw [St.get_delnew] at hs2
                                rw [if_neg e3] at hs2
                                split at hs2
                                · simp at hs2
                                · exact r2 b2 m2 hne hs2 hm2
                        · intro b' hb'
                          simp at hb'
                          rw [St.get_delnew]
                          rw [if_neg (by omega)]
                          split
                          · rfl
                          · exact R.fresh b' (by omega)
                        · have := R.base; omega
                        · intro g hg'
                          obtain ⟨q, hq⟩ := R.glob g hg'
                          exact ⟨q, hle' _ _ hq⟩
                        · rw [← hw2]
                          exact ⟨rfl, rfl, rfl, by rw [heap_setRow]; exact Nat.le_refl _, fun k hk => setRow_other w m.blk k _ (by omega)⟩
                        · intro b' hb' hm'
                          refine ⟨by simp only [Mu.set]; rw [if_neg (by omega)]; exact hm', ?_⟩
                          rw [St.get_delnew]
                          rw [if_neg (by omega), if_neg]
                          rintro rfl; rw [hm] at hm'; cases hm'
                      · refine grow _ len c old ov hov hol (by omega) hfit (hor c) (s.del b) rfl (R.del b) rfl (fun b' hb' => ?_)
                        rw [St.get_del, if_neg]
                        rintro rfl; rw [hm] at hb'; cases hb'
                    · cases h
                cases ho2 : oldA s b off len i.size with
                | none => rw [ho2] at h; simp at h
                | some old => exact main old ho2
            · cases h
      · cases h
    · cases h
  · cases h
end
end Go.Proofs.YtijkkgloennglaaGreatDoor.Ab
