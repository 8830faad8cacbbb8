/-
  The law of a shape merged with itself answers true, whatever comes in. No condition.
-/
import Derived.Test.YtijkkgloennglaaGreatDoorSd
import Derived.Test.YtijkkgloennglaaGreatDoorFw24
import Derived.Test.YtijkkgloennglaaGreatDoorAw
set_option linter.all false
set_option maxRecDepth 100000
set_option maxHeartbeats 4000000
namespace Go.Proofs.YtijkkgloennglaaGreatDoor.Ab
open Go Go.RowKit
attribute [local simp] WLd contW_eq WL_nil guardOk callOf stepOp clsOf pureA readA loudA allocA opd opds Env.get Env.put ofConst binA intBin unA strBin partsOf fillA zeros TV.cells TyI.wrap TyI.agg bnd ofPart ptrVals

theorem Keeps.newput (t : St) (B B' : Blk) : Keeps t ((t.new B).put t.next B') := ⟨rfl, fun b hb => by rw [St.get_put, if_neg (by omega), St.get_new, if_neg (by omega)], by simp⟩
theorem Fresh.newput {t : St} (h : Fresh t) (B B' : Blk) : Fresh ((t.new B).put t.next B') := (h.new B).put (by simp) B'
theorem cells_kept {s t : St} {b : Nat} {cs : List AV} (h : s.cells b = some cs) (hb : b < s.next) (hk : Keeps s t) : t.cells b = some cs := by unfold St.cells at h ⊢; rw [hk.old b hb]; exact h

theorem law3 {s : St} (hf : Fresh s) (hgl : s.gl = 5) (hn : 5 ≤ s.next) (hg0 : ∀ b B, g0.get b = some B → s.get b = some B) (hlt0 : ∀ b B, g0.get b = some B → b < 5) {c : Bool} {x1 x2 : AV} {l1 l2 : List (List UInt8)} (h1 : Strs s x1 l1) (h2 : Strs s x2 l2) :
    AC Tryz.prog 3 [.agg [.bool c, x1, x2]] s (fun r _ => r = .v (.bool true)) := by
  refine ac_of_wc tys_ok hm fnis3 (by simp [fr3]) ?_
  simp only [fr3, cc3]
  have haw : ∀ t : St, Keeps s t → AC Tryz.prog 7 [] t (fun r u => r = .v (.bool true) ∧ u = t) := fun t h => awake_in (h.gl.trans hgl) (fun b B hB => by rw [h.old b (by have := hlt0 b B hB; omega)]; exact hg0 b B hB)
  have hk := Keeps.new s ⟨true, .cells [.bool c, x1, x2]⟩
  have hf1 : Fresh (s.new ⟨true, .cells [.bool c, x1, x2]⟩) := hf.new _
  have hc : (s.new ⟨true, .cells [.bool c, x1, x2]⟩).cells s.next = some [.bool c, x1, x2] := by simp [cells_new_eq]
  have hSn : s.next < (s.new ⟨true, .cells [.bool c, x1, x2]⟩).next := by simp
  have e1 := fun s => lenA_sl (T := tys) (s := s) (t := 22) (e := 9) (x := x1) rfl h1.len
  have e2 := fun s => lenA_sl (T := tys) (s := s) (t := 22) (e := 9) (x := x2) rfl h2.len
  rw [wc_sr]; simp -implicitDefEqProofs [argEnv]
  revert hk hf1 hc hSn
  generalize (s.new ⟨true, .cells [.bool c, x1, x2]⟩) = S0
  intro hk0 hf0 hc0 hSn0
  rw [wc_sr]; simp -implicitDefEqProofs
  refine (tables_in hf0 (hk0.gl.trans hgl) (by have := hk0.next; omega) (fun b B hB => by rw [hk0.old b (by have := hlt0 b B hB; omega)]; exact hg0 b B hB)).mono ?_
  rintro r S ⟨y0, rfl, hT, kS, hfS⟩
  have hk := hk0.trans kS
  have hc := cells_kept hc0 hSn0 kS
  have hSn : s.next < S.next := Nat.lt_of_lt_of_le hSn0 kS.next
  simp -implicitDefEqProofs
  rw [wc_assoc, wc_sr]; simp -implicitDefEqProofs
  refine ac_det (haw S hk) ?_
  simp -implicitDefEqProofs [at24, hc]
  refine (few8 hfS (h1.kept hf hk) (h2.kept hf hk)).mono ?_
  rintro r S2 ⟨b, rfl, hfew, k2, f2⟩
  have hk2 := hk.trans k2
  have hc2 := cells_kept hc hSn k2
  cases b with
  | false =>
    simp -implicitDefEqProofs
    rw [wc_sct (by simp), wc_assoc, wc_sr]; simp -implicitDefEqProofs
    refine ac_det (haw S2 hk2) ?_
    try simp -implicitDefEqProofs
    rw [wc_sret]
    simp -implicitDefEqProofs [Ends, resA, resAll, resOne]
  | true =>
    simp -implicitDefEqProofs [kd24, at4, hc2]
    cases c with
    | false =>
      simp -implicitDefEqProofs
      rw [wc_sct (by simp), wc_assoc, wc_sr]; simp -implicitDefEqProofs
      refine ac_det (haw S2 hk2) ?_
      try simp -implicitDefEqProofs
      rw [wc_sret]
      simp -implicitDefEqProofs [Ends, resA, resAll, resOne]
    | true =>
      simp -implicitDefEqProofs
      obtain ⟨n1, n2, s1, s2⟩ := hfew rfl
      have hT2 := hT.kept k2
      have hgl2 : S2.gl = 5 := hk2.gl.trans hgl
      have t1 := h1.kept hf hk2
      have t2 := h2.kept hf hk2
      have hSn2 : s.next < S2.next := Nat.lt_of_lt_of_le hSn k2.next
      rw [wc_scf (by simp), wc_ss, wc_assoc, wc_sr]; simp -implicitDefEqProofs
      rw [wc_sb]
      obtain ⟨I, hI⟩ : ∃ I : Nat → Env → St → Prop, ∀ m e t, I m e t = ∃ (i : Nat), m = l1.length - i ∧ i ≤ l1.length ∧ e = [(1, .v (.ptr s.next 0)), (3, .v (.ptr S0.next 0)), (5, .v (.int .i64 i))] ∧ (∀ (j : Nat) k, j < i → l1[j]? = some k → kindB names6 k = true) ∧ t = S2 := ⟨_, fun _ _ _ => rfl⟩
      refine wc_loopI I l1.length ?_ ?_
      · rw [hI]; exact ⟨0, by omega, by omega, by simp [Env.keep], fun j k h => by omega, rfl⟩
      intro m e t hIt
      rw [hI] at hIt
      obtain ⟨i, rfl, hi, rfl, hj, rfl⟩ := hIt
      rw [wc_assoc, wc_sr]; simp -implicitDefEqProofs [kd24, at22, hc2, e1]
      by_cases hlt : i < l1.length
      · obtain ⟨bp, op, i1, i2⟩ := t1.at hlt
        simp at i1 i2
        rw [wc_sct (by simp [hlt]), wc_ss, wc_sb, wc_sr]; simp -implicitDefEqProofs [kd24, at22, hc2, i1, i2]
        refine ac_det (kind9 hgl2 hT2 (by have := s1 l1[i] (List.getElem_mem hlt); omega)) ?_
        cases hkd : kindB names6 l1[i] with
        | false =>
          simp -implicitDefEqProofs
          rw [wc_ct (by simp), wc_sr]; simp -implicitDefEqProofs
          rw [WC_ret]
          simp -implicitDefEqProofs [BlkK, Ends, resA, resAll, resOne]
        | true =>
          simp -implicitDefEqProofs
          rw [wc_cf (by simp), WC_skip, blk_normal, WC_reg]; simp -implicitDefEqProofs
          refine ⟨l1.length - (i + 1), by omega, ?_⟩
          rw [hI]
          refine ⟨i + 1, rfl, by omega, by rw [wrap_small (by omega) (by omega)]; simp [Env.keep], fun j k h hk => ?_, rfl⟩
          by_cases e : j = i
          · subst e; rw [List.getElem?_eq_getElem hlt] at hk; cases hk; exact hkd
          · exact hj j k (by omega) hk
      · have hil : i = l1.length := by omega
        subst hil
        rw [wc_scf (by simp), wc_sexit]
        show BlkK _ _ 0 _ _ (.exit 0) _ _
        rw [blk_exit, wc_assoc, wc_sr]; simp -implicitDefEqProofs
        rw [wc_sb]
        have hall1 : ∀ k ∈ l1, k.length ≤ 100 ∧ kindB names6 k = true := fun k hk => by
          refine ⟨s1 k hk, ?_⟩
          obtain ⟨j, hj', rfl⟩ := List.getElem_of_mem hk
          exact hj j _ hj' (by simp)
        clear hI hj hi hlt
        obtain ⟨J, hJ⟩ : ∃ J : Nat → Env → St → Prop, ∀ m e u, J m e u = ∃ (i : Nat), m = l2.length - i ∧ i ≤ l2.length ∧ e = [(1, .v (.ptr s.next 0)), (3, .v (.ptr S0.next 0)), (6, .v (.int .i64 i))] ∧ (∀ (j : Nat) k, j < i → l2[j]? = some k → k ≠ [] → kindB names6 k = true) ∧ u = t := ⟨_, fun _ _ _ => rfl⟩
        refine wc_loopI J l2.length ?_ ?_
        · rw [hJ]; exact ⟨0, by omega, by omega, by simp [Env.keep], fun j k h => by omega, rfl⟩
        intro m e u hIt
        rw [hJ] at hIt
        obtain ⟨i, rfl, hi, rfl, hj, rfl⟩ := hIt
        rw [wc_assoc, wc_sr]; simp -implicitDefEqProofs [kd24, at22, hc2, e2]
        by_cases hlt : i < l2.length
        · obtain ⟨bp, op, i1, i2⟩ := t2.at hlt
          simp at i1 i2
          have hget : l2[i]? = some l2[i] := by simp
          have hlen := s2 l2[i] (List.getElem_mem hlt)
          generalize l2[i] = k at i2 hget hlen
          rw [wc_sct (by simp [hlt]), wc_ss, wc_sb, wc_sr]
          have hnext : (k ≠ [] → kindB names6 k = true) → J (l2.length - (i + 1)) [(1, .v (.ptr s.next 0)), (3, .v (.ptr S0.next 0)), (6, .v (.int .i64 ((i : Int) + 1)))] u := fun hkk => by
            rw [hJ]
            refine ⟨i + 1, rfl, by omega, by simp, fun j q h hk => ?_, rfl⟩
            by_cases e : j = i
            · subst e; rw [hget] at hk; cases hk; exact hkk
            · exact hj j q (by omega) hk
          have hwr : IntKind.i64.wrap ((i : Int) + 1) = (i : Int) + 1 := wrap_small (by omega) (by omega)
          by_cases hk0 : k = []
          · subst hk0
            simp -implicitDefEqProofs [kd24, at22, hc2, i1, i2]
            rw [wc_cf (by simp), WC_skip, blk_normal, WC_reg]; simp -implicitDefEqProofs [hwr, Env.keep]
            exact ⟨_, by omega, hnext (fun h => absurd rfl h)⟩
          · have hkb : (k == []) = false := by simp [hk0]
            simp -implicitDefEqProofs [kd24, at22, hc2, i1, i2, hkb]
            refine ac_det (kind9 hgl2 hT2 (by omega)) ?_
            cases hkd : kindB names6 k with
            | false =>
              simp -implicitDefEqProofs
              rw [wc_ct (by simp), wc_sr]; simp -implicitDefEqProofs
              rw [WC_ret]
              simp -implicitDefEqProofs [BlkK, Ends, resA, resAll, resOne]
            | true =>
              simp -implicitDefEqProofs
              rw [wc_cf (by simp), WC_skip, blk_normal, WC_reg]; simp -implicitDefEqProofs [hwr, Env.keep]
              exact ⟨_, by omega, hnext (fun _ => hkd)⟩
        · have hil : i = l2.length := by omega
          subst hil
          rw [wc_scf (by simp), wc_sexit]
          show BlkK _ _ 2 _ _ (.exit 2) _ _
          have hall2 : ∀ k ∈ l2, k.length ≤ 100 ∧ (k ≠ [] → kindB names6 k = true) := fun k hk => by
            refine ⟨s2 k hk, ?_⟩
            obtain ⟨j, hj', rfl⟩ := List.getElem_of_mem hk
            exact hj j _ hj' (by simp)
          rw [blk_exit, wc_sr]; simp -implicitDefEqProofs [at24, hc2]
          refine (merge_s f2 hgl2 hT2 t1 t2 n1 n2 hall1 hall2).mono ?_
          rintro r u1 ⟨a1, a2, rfl, p1, p2, ka, fa⟩
          simp -implicitDefEqProofs [at24, own_new_eq]
          have kv1 := ka.trans (Keeps.newput u1 ⟨true, .cells [.bool false, .nils, .nils]⟩ ⟨true, .cells [.bool true, a1, a2]⟩)
          have fv1 := fa.newput ⟨true, .cells [.bool false, .nils, .nils]⟩ ⟨true, .cells [.bool true, a1, a2]⟩
          have cv1 : ((u1.new ⟨true, .cells [.bool false, .nils, .nils]⟩).put u1.next ⟨true, .cells [.bool true, a1, a2]⟩).cells u1.next = some [.bool true, a1, a2] := by simp [cells_put_eq]
          have nv1 : u1.next < ((u1.new ⟨true, .cells [.bool false, .nils, .nils]⟩).put u1.next ⟨true, .cells [.bool true, a1, a2]⟩).next := by simp
          have q1 := p1.strs.kept fa (Keeps.newput u1 ⟨true, .cells [.bool false, .nils, .nils]⟩ ⟨true, .cells [.bool true, a1, a2]⟩)
          have q2 := p2.strs.kept fa (Keeps.newput u1 ⟨true, .cells [.bool false, .nils, .nils]⟩ ⟨true, .cells [.bool true, a1, a2]⟩)
          revert kv1 fv1 cv1 nv1 q1 q2
          generalize ((u1.new ⟨true, .cells [.bool false, .nils, .nils]⟩).put u1.next ⟨true, .cells [.bool true, a1, a2]⟩) = v1
          intro kv1 fv1 cv1 nv1 q1 q2
          have hcv1 := cells_kept hc2 hSn2 kv1
          have hSv1 : s.next < v1.next := Nat.lt_of_lt_of_le hSn2 kv1.next
          rw [wc_sr]; simp -implicitDefEqProofs [at24, kd24, fieldPlaces, at4, at22, hcv1]
          refine (merge_l fv1 (t1.kept f2 kv1) (t2.kept f2 kv1) (by omega) (by omega)).mono ?_
          rintro r u3 ⟨b1, b2, rfl, p3, p4, kb, fb⟩
          simp -implicitDefEqProofs [at24, own_new_eq]
          have kn := Keeps.newput u3 ⟨true, .cells [.bool false, .nils, .nils]⟩ ⟨true, .cells [.bool true, b1, b2]⟩
          have kv2 := kb.trans kn
          have fv2 := fb.newput ⟨true, .cells [.bool false, .nils, .nils]⟩ ⟨true, .cells [.bool true, b1, b2]⟩
          have cv2 : ((u3.new ⟨true, .cells [.bool false, .nils, .nils]⟩).put u3.next ⟨true, .cells [.bool true, b1, b2]⟩).cells u3.next = some [.bool true, b1, b2] := by simp [cells_put_eq]
          have nv2 : u3.next < ((u3.new ⟨true, .cells [.bool false, .nils, .nils]⟩).put u3.next ⟨true, .cells [.bool true, b1, b2]⟩).next := by simp
          have q3 := p3.strs.kept fb kn
          have q4 := p4.strs.kept fb kn
          revert kv2 fv2 cv2 nv2 q3 q4
          clear kn
          generalize ((u3.new ⟨true, .cells [.bool false, .nils, .nils]⟩).put u3.next ⟨true, .cells [.bool true, b1, b2]⟩) = v2
          intro kv2 fv2 cv2 nv2 q3 q4
          have hcv2 := cells_kept hcv1 hSv1 kv2
          have hSv2 : s.next < v2.next := Nat.lt_of_lt_of_le hSv1 kv2.next
          have cv1' := cells_kept cv1 nv1 kv2
          have nv1' : u1.next < v2.next := Nat.lt_of_lt_of_le nv1 kv2.next
          rw [wc_sr]; simp -implicitDefEqProofs [at24, kd24, fieldPlaces, at4, at22, hcv2]
          refine (merge_r fv2 ((t1.kept f2 kv1).kept fv1 kv2) ((t2.kept f2 kv1).kept fv1 kv2) (by omega) (by omega)).mono ?_
          rintro r u5 ⟨d1, d2, rfl, p5, p6, kd, fd⟩
          simp -implicitDefEqProofs [at24, own_new_eq]
          have kn := Keeps.newput u5 ⟨true, .cells [.bool false, .nils, .nils]⟩ ⟨true, .cells [.bool true, d1, d2]⟩
          have kv3 := kd.trans kn
          have fv3 := fd.newput ⟨true, .cells [.bool false, .nils, .nils]⟩ ⟨true, .cells [.bool true, d1, d2]⟩
          have cv3 : ((u5.new ⟨true, .cells [.bool false, .nils, .nils]⟩).put u5.next ⟨true, .cells [.bool true, d1, d2]⟩).cells u5.next = some [.bool true, d1, d2] := by simp [cells_put_eq]
          have nv3 : u5.next < ((u5.new ⟨true, .cells [.bool false, .nils, .nils]⟩).put u5.next ⟨true, .cells [.bool true, d1, d2]⟩).next := by simp
          have q5 := p5.strs.kept fd kn
          have q6 := p6.strs.kept fd kn
          revert kv3 fv3 cv3 nv3 q5 q6
          clear kn
          generalize ((u5.new ⟨true, .cells [.bool false, .nils, .nils]⟩).put u5.next ⟨true, .cells [.bool true, d1, d2]⟩) = v3
          intro kv3 fv3 cv3 nv3 q5 q6
          have hcv3 := cells_kept hcv2 hSv2 kv3
          have hSv3 : s.next < v3.next := Nat.lt_of_lt_of_le hSv2 kv3.next
          have cv1'' := cells_kept cv1' nv1' kv3
          have cv2' := cells_kept cv2 nv2 kv3
          have nv1'' : u1.next < v3.next := Nat.lt_of_lt_of_le nv1' kv3.next
          have nv2' : u3.next < v3.next := Nat.lt_of_lt_of_le nv2 kv3.next
          have z1 := ((t1.kept f2 kv1).kept fv1 kv2).kept fv2 kv3
          have z2 := ((t2.kept f2 kv1).kept fv1 kv2).kept fv2 kv3
          have w1 := (q1.kept fv1 kv2).kept fv2 kv3
          have w2 := (q2.kept fv1 kv2).kept fv2 kv3
          have w3 := q3.kept fv2 kv3
          have w4 := q4.kept fv2 kv3
          rw [wc_sr]; simp -implicitDefEqProofs [at24, cv1'', hcv3]
          refine (same11 fv3 w1 w2 z1 z2 (by omega) (by omega)).fresh.mono ?_
          rintro r v4 ⟨⟨rfl, k4⟩, f4⟩
          simp -implicitDefEqProofs [at24, cells_kept cv2' nv2' k4, cells_kept hcv3 hSv3 k4]
          refine (same11 f4 (w3.kept fv3 k4) (w4.kept fv3 k4) (z1.kept fv3 k4) (z2.kept fv3 k4) (by omega) (by omega)).fresh.mono ?_
          rintro r v5 ⟨⟨rfl, k5⟩, f5⟩
          have k45 := k4.trans k5
          simp -implicitDefEqProofs [at24, cells_kept cv3 nv3 k45, cells_kept hcv3 hSv3 k45]
          refine (same11 f5 (q5.kept fv3 k45) (q6.kept fv3 k45) (z1.kept fv3 k45) (z2.kept fv3 k45) (by omega) (by omega)).fresh.mono ?_
          rintro r v6 ⟨⟨rfl, k6⟩, f6⟩
          have k46 := k45.trans k6
          simp -implicitDefEqProofs [at24, cells_kept cv1'' nv1'' k46, cells_kept hcv3 hSv3 k46]
          refine (same12 f6 (w1.kept fv3 k46) (w2.kept fv3 k46) (z1.kept fv3 k46) (z2.kept fv3 k46) (by omega) (by omega)).mono ?_
          rintro r v7 ⟨rfl, k7⟩
          simp -implicitDefEqProofs
          rw [WC_ret]
          simp -implicitDefEqProofs [Ends, resA, resAll, resOne]
theorem law3_any {s : St} {xs : List TV} (hf : Fresh s) (hgl : s.gl = 5) (hn : 5 ≤ s.next) (hk : ∀ b B, g0.get b = some B → s.get b = some B) (hlt : ∀ b B, g0.get b = some B → b < 5) (hx : ArgsSh tys s 4 [24] xs) : AC Tryz.prog 3 xs s (fun r _ => r = .v (.bool true)) := by
  cases xs with
  | nil => exact hx.elim
  | cons z xs =>
    cases xs with
    | cons y xs => exact hx.2.elim
    | nil =>
      obtain ⟨h2, _⟩ := hx
      unfold ArgSh at h2
      rw [at24] at h2
      obtain ⟨c, rfl, h2⟩ := h2
      unfold ShA at h2
      rw [kd24] at h2
      simp only [ShF] at h2
      obtain ⟨i1, a1, r1, e1, rfl, g1, s1, i2, a2, r2, e2, rfl, g2, s2, i3, a3, r3, e3, rfl, g3, s3, rfl⟩ := h2
      obtain rfl := Option.some.inj (at22.symm.trans e2)
      obtain rfl := Option.some.inj (at22.symm.trans e3)
      obtain ⟨x1, rfl⟩ := one_of g2
      obtain ⟨x2, rfl⟩ := one_of g3
      obtain ⟨l1, h1⟩ := strs_of (n := 1) s2
      obtain ⟨l2, h2⟩ := strs_of (n := 1) s3
      unfold ShA at s1
      rw [show tys.kd 4 = some .bool from rfl] at s1
      obtain ⟨b, rfl⟩ := s1
      exact law3 hf hgl hn hk hlt h1 h2
end Go.Proofs.YtijkkgloennglaaGreatDoor.Ab
