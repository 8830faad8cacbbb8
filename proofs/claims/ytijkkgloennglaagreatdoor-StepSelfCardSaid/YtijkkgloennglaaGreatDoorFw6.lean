/-
  Each step of the abstract machine is one of the model's: slices and maps. No condition.
-/
import Derived.Test.YtijkkgloennglaaGreatDoorFw5
set_option linter.all false
namespace Go.Proofs.YtijkkgloennglaaGreatDoor.Ab
open Go Go.RowKit

section
variable {P : Program} {T : Tys} {base : Nat} {μ : Mu} {s : St} {w : World}

def VO (μ : Mu) : Option TV → Option Value → Prop
  | none, none => True
  | some x, some v => VT μ x v
  | _, _ => False

theorem run_bound {k : IntKind} {n : Int} {y : Nat} (c : BoundsCode) (h0 : 0 ≤ n) (h1 : n.toNat ≤ y) : (Instr.sliceBound (.int k n) y c).run P w = .ok n.toNat w := by
  have h2 : n ≤ (y : Int) := by omega
  simp [Instr.sliceBound, asIntOf, h0, h2]

theorem bound_cases {d r : Nat} {x : Option TV} {v : Option Value} (h : boundA d x = some r) (H : VO μ x v) : (x = none ∧ v = none ∧ r = d) ∨ (∃ k n, v = some (.int k n) ∧ x.isSome = true ∧ 0 ≤ n ∧ r = n.toNat) := by
  unfold boundA at h
  split at h
  · cases h; cases v with
    | none => exact .inl ⟨rfl, rfl, rfl⟩
    | some v => cases H
  · split at h
    · rename_i hn
      cases h
      cases v with
      | none => cases H
      | some v => cases H; exact .inr ⟨_, _, rfl, rfl, hn, rfl⟩
    · cases h
  · cases h

theorem run_bounds2 {isS : Bool} {len cap l h : Nat} {lo hi : Option TV} {lo' hi' : Option Value} (h1 : boundA 0 lo = some l) (h2 : boundA len hi = some h) (H1 : VO μ lo lo') (H2 : VO μ hi hi') (hl : l ≤ h) (hh : h ≤ cap) :
    (Instr.sliceBounds isS len cap lo' hi' none).run P w = .ok (l, h, cap) w := by
  rcases bound_cases h1 H1 with ⟨_, rfl, rfl⟩ | ⟨k, n, rfl, _, h0, rfl⟩ <;> rcases bound_cases h2 H2 with ⟨_, rfl, rfl⟩ | ⟨k', n', rfl, _, h0', rfl⟩
  · simp [Instr.sliceBounds]
  · simp [Instr.sliceBounds, run_bound _ h0' hh]
  · simp [Instr.sliceBounds, run_bound _ h0 hl]
  · simp [Instr.sliceBounds, run_bound _ h0' hh, run_bound _ h0 hl]
theorem run_bounds3 {isS : Bool} {len cap l h : Nat} {k : IntKind} {m : Int} {lo hi : Option TV} {lo' hi' : Option Value} (h1 : boundA 0 lo = some l) (h2 : boundA len hi = some h) (H1 : VO μ lo lo') (H2 : VO μ hi hi') (hs : hi.isSome = true) (hl : l ≤ h) (hm0 : 0 ≤ m) (hm : m.toNat ≤ cap) (hh : h ≤ m.toNat) :
    (Instr.sliceBounds isS len cap lo' hi' (some (.int k m))).run P w = .ok (l, h, m.toNat) w := by
  rcases bound_cases h2 H2 with ⟨rfl, _, _⟩ | ⟨k', n', rfl, _, h0', rfl⟩
  · simp at hs
  rcases bound_cases h1 H1 with ⟨_, rfl, rfl⟩ | ⟨k, n, rfl, _, h0, rfl⟩
  · simp [Instr.sliceBounds, run_bound _ hm0 hm, run_bound _ h0' hh]
  · simp [Instr.sliceBounds, run_bound _ hm0 hm, run_bound _ h0' hh, run_bound _ h0 hl]

theorem good_slice (hT : tysB P T = true) (R : Rel base μ s w.heap) {t : TypeId} {x r : TV} {lo hi mx : Option TV} {xv : Value} {lo' hi' mx' : Option Value} (hx : VT μ x xv) (H1 : VO μ lo lo') (H2 : VO μ hi hi') (H3 : VO μ mx mx')
    (h : sliceA T t x lo hi mx = some r) : Good P base μ s w (Instr.sliceAt t xv lo' hi' mx') r s := by
  unfold sliceA at h
  split at h
  · rename_i l hk
    obtain ⟨d, hrun, hu, hkb⟩ := kd_und hT hk
    cases d <;> simp [kB] at hkb
    cases hx
    split at h
    · rename_i a b h1 h2
      split at h
      · rename_i hc
        cases h
        cases mx' with
        | some v => cases H3
        | none =>
          have hb := run_bounds2 (P := P) (w := w) (isS := false) (len := l.length) (cap := l.length) h1 h2 H1 H2 hc.1 hc.2
          refine Good.now R (v := .string ((⟨l.toArray⟩ : ByteArray).extract a b)) ?_ ?_
          · have hsz : (⟨l.toArray⟩ : ByteArray).size = l.length := by simp [ByteArray.size]
            simp [Instr.sliceAt, hrun, Instr.slice, hsz, hb]
          · show Value.string _ = Value.string _
            congr 1
            have := Lib.extract_toList (⟨l.toArray⟩ : ByteArray) a b
            rw [ByteArray.toList_eq] at this
            have h3 : ((⟨l.toArray⟩ : ByteArray).extract a b).data = ((l.take b).drop a).toArray := by
              apply Array.ext'
              rw [this]; simp [List.drop_take]
            cases hq : (⟨l.toArray⟩ : ByteArray).extract a b with
            | mk d => rw [hq] at h3; simp at h3; rw [h3]
      · cases h
    · cases h
  · rename_i e b off len es cap hk
    obtain ⟨d, hrun, hu, hkb⟩ := kd_und hT hk
    cases d <;> simp [kB] at hkb
    subst hkb
    obtain ⟨m, o, c, hm, rfl, ho, hlc, hcap, hsz⟩ := hx
    split at h
    · rename_i i l hh he h1 h2
      obtain ⟨inf, d', z, K⟩ := tysB_spec hT he
      split at h
      · cases h
      · rename_i hc
        have hes : i.size = es := Decidable.byContradiction fun x => hc (.inl x)
        have hlh : l ≤ hh := Decidable.byContradiction fun x => hc (.inr (.inl x))
        have hhl : hh ≤ len := Decidable.byContradiction fun x => hc (.inr (.inr x))
        have hmul : ∀ q, l ≤ q → l * es + (q - l) * es = q * es := fun q hq => by rw [← Nat.add_mul]; congr 1; omega
        split at h
        · cases h
          cases mx' with
          | some v => cases H3
          | none =>
            have hb := run_bounds2 (P := P) (w := w) (isS := true) (len := len) (cap := c) h1 h2 H1 H2 hlh (by omega)
            have hq := hmul c (by omega)
            by_cases hcl : c = l
            · refine Good.now R (v := .slice (some ⟨m.blk, o, none⟩) (hh - l) (c - l)) ?_ ⟨m, o, c - l, hm, rfl, fun hne => by omega, by omega, fun k hk => ?_, fun hcn => by have := hsz (by cases cap with | none => rfl | some k' => simp at hcn); rw [hcl]; simp; omega⟩
              · subst hcl; simp [Instr.sliceAt, hrun, Instr.slice, hb, run_size K]
              · cases cap with
                | none => cases hk
                | some k' => simp at hk; have := hcap k' rfl; omega
            · refine Good.now R (v := .slice (some ⟨m.blk, o + l * es, none⟩) (hh - l) (c - l)) ?_ ⟨m, o + l * es, c - l, hm, rfl, fun hne => ?_, by omega, fun k hk => ?_, fun hcn => by have := hsz (by cases cap with | none => rfl | some k' => simp at hcn); omega⟩
              · simp [Instr.sliceAt, hrun, Instr.slice, hb, run_size K, hcl, hes, Addr.add_lit]
              · have := ho (by omega); omega
              · cases cap with
                | none => cases hk
                | some k' => simp at hk; have := hcap k' rfl; omega
        · rename_i mk mi ht2 
          split at h
          · rename_i hmm
            cases h
            cases mx' with
            | none => cases H3
            | some v =>
              cases H3
              have hb := run_bounds3 (P := P) (w := w) (isS := true) (len := len) (cap := c) (k := mk) (m := mi) h1 h2 H1 H2 rfl hlh hmm.1 (by omega) hmm.2.2
              have hq := hmul mi.toNat (by omega)
              by_cases hcl : mi.toNat = l
              · refine Good.now R (v := .slice (some ⟨m.blk, o, none⟩) (hh - l) (mi.toNat - l)) ?_ ⟨m, o, mi.toNat - l, hm, rfl, fun hne => by omega, by omega, fun k hk => by cases hk; rfl, fun hcn => by cases hcn⟩
                subst hcl; simp [Instr.sliceAt, hrun, Instr.slice, hb, run_size K]
              · refine Good.now R (v := .slice (some ⟨m.blk, o + l * es, none⟩) (hh - l) (mi.toNat - l)) ?_ ⟨m, o + l * es, mi.toNat - l, hm, rfl, fun hne => ?_, by omega, fun k hk => by cases hk; rfl, fun hcn => by cases hcn⟩
                · simp [Instr.sliceAt, hrun, Instr.slice, hb, run_size K, hcl, hes, Addr.add_lit]
                · have := ho (by omega); omega
          · cases h
        · cases h
    · cases h
  · rename_i e hk
    obtain ⟨d, hrun, hu, hkb⟩ := kd_und hT hk
    obtain ⟨ti, hti, _⟩ := kd_spec hk
    cases d <;> simp [kB] at hkb
    subst hkb
    obtain ⟨ad, rfl⟩ := hx
    split at h
    · rename_i i he h1 h2
      obtain ⟨inf, d', z, K⟩ := tysB_spec hT he
      cases h
      cases mx' with
      | some v => cases H3
      | none =>
        have hb := run_bounds2 (P := P) (w := w) (isS := true) (len := 0) (cap := 0) h1 h2 H1 H2 (Nat.le_refl _) (Nat.le_refl _)
        exact Good.now R (v := .slice (some ad) 0 0) (by simp [Instr.sliceAt, hrun, Instr.slice, hb, run_size K]) ⟨ad, rfl⟩
    · rename_i i k hi he h1 h2
      obtain ⟨inf, d', z, K⟩ := tysB_spec hT he
      cases h
      cases mx' with
      | none => cases H3
      | some v =>
        cases H3
        have hb := run_bounds3 (P := P) (w := w) (isS := true) (len := 0) (cap := 0) (k := k) (m := 0) h1 h2 H1 H2 rfl (Nat.le_refl _) (Int.le_refl _) (Nat.le_refl _) (Nat.le_refl _)
        exact Good.now R (v := .slice (some ad) 0 0) (by simp [Instr.sliceAt, hrun, Instr.slice, hb, run_size K]) ⟨ad, rfl⟩
    · cases h
  · rename_i n e b off hk
    obtain ⟨d, hrun, hu, hkb⟩ := kd_und hT hk
    cases d <;> simp [kB] at hkb
    obtain ⟨rfl, rfl⟩ := hkb
    obtain ⟨m, hm, rfl⟩ := hx
    split at h
    · rename_i i l hh he h1 h2
      obtain ⟨inf, d', z, K⟩ := tysB_spec hT he
      split at h
      · cases h
      · rename_i hc
        have hmx : mx = none := by cases mx with | none => rfl | some q => exact absurd (.inl rfl) hc
        have hlh : l ≤ hh := Decidable.byContradiction fun x => hc (.inr (.inl x))
        have hhl : hh ≤ n := Decidable.byContradiction fun x => hc (.inr (.inr x))
        subst hmx
        cases h
        cases mx' with
        | some v => cases H3
        | none =>
          have hb := run_bounds2 (P := P) (w := w) (isS := false) (len := n) (cap := n) h1 h2 H1 H2 hlh hhl
          by_cases hcl : n = l
          · refine Good.now R (v := .slice (some ⟨m.blk, m.sh + off, none⟩) (hh - l) (n - l)) ?_ ⟨m, m.sh + off, n - l, hm, rfl, fun hne => by omega, by omega, fun k hk => by cases hk; rfl, fun hcn => by cases hcn⟩
            subst hcl; simp [Instr.sliceAt, hrun, Instr.sureAddr, hb, run_size K]
          · refine Good.now R (v := .slice (some ⟨m.blk, m.sh + off + l * i.size, none⟩) (hh - l) (n - l)) ?_ ⟨m, m.sh + off + l * i.size, n - l, hm, rfl, fun hne => by omega, by omega, fun k hk => by cases hk; rfl, fun hcn => by cases hcn⟩
            simp [Instr.sliceAt, hrun, Instr.sureAddr, hb, run_size K, hcl, Addr.add_lit]
    · cases h
  · rename_i e hk
    obtain ⟨d, hrun, hu, hkb⟩ := kd_und hT hk
    obtain ⟨ti, hti, _⟩ := kd_spec hk
    cases d <;> simp [kB] at hkb
    subst hkb
    cases hx
    split at h
    · rename_i i he h1 h2
      obtain ⟨inf, d', z, K⟩ := tysB_spec hT he
      cases h
      cases mx' with
      | some v => cases H3
      | none =>
        have hb := run_bounds2 (P := P) (w := w) (isS := true) (len := 0) (cap := 0) h1 h2 H1 H2 (Nat.le_refl _) (Nat.le_refl _)
        exact Good.now R (v := .slice none 0 0) (by simp [Instr.sliceAt, hrun, Instr.slice, hb, run_size K]) rfl
    · rename_i i k hi he h1 h2
      obtain ⟨inf, d', z, K⟩ := tysB_spec hT he
      cases h
      cases mx' with
      | none => cases H3
      | some v =>
        cases H3
        have hb := run_bounds3 (P := P) (w := w) (isS := true) (len := 0) (cap := 0) (k := k) (m := 0) h1 h2 H1 H2 rfl (Nat.le_refl _) (Int.le_refl _) (Nat.le_refl _) (Nat.le_refl _)
        exact Good.now R (v := .slice none 0 0) (by simp [Instr.sliceAt, hrun, Instr.slice, hb, run_size K]) rfl
    · cases h
  · cases h

theorem VA_key {k : AV} {v : Value} {d : TypeDesc} {tk : TK} (h : VA μ k v) (hk : keyOk tk k = true) (hd : kB tk d = true) : (∃ q n, k = .int q n ∧ v = .int q n ∧ d = .int q) ∨ (∃ l, k = .str l ∧ v = .string ⟨l.toArray⟩ ∧ d = .string) := by
  unfold keyOk at hk
  split at hk
  · cases d <;> simp [kB] at hd
    cases h
    simp at hk
    subst hd; subst hk
    exact .inl ⟨_, _, rfl, rfl, rfl⟩
  · cases d <;> simp [kB] at hd
    cases h
    exact .inr ⟨_, rfl, rfl, rfl⟩
  · cases hk

abbrev RE (μ : Mu) := fun (e : AV × AV) (x : MapEntry) => VA μ e.1 x.key ∧ VA μ e.2 x.val

theorem bytes_beq (a b : List UInt8) : ((⟨a.toArray⟩ : ByteArray) == ⟨b.toArray⟩) = (a == b) := by
  change (a.toArray == b.toArray) = (a == b)
  simp

theorem find_sound {key : AV} {kv : Value} {d : TypeDesc} (hc : (∃ q n, key = .int q n ∧ kv = .int q n ∧ d = .int q) ∨ (∃ l, key = .str l ∧ kv = .string ⟨l.toArray⟩ ∧ d = .string)) :
    ∀ {es : List (AV × AV)} {l : List MapEntry} {r : Option AV} (i : Nat), All2 (RE μ) es l → findA key es = some r →
      (r = none ∧ Instr.findNow d kv l i = some none ∧ ∀ val, putA key val es = es ++ [(key, val)]) ∨
      (∃ v n x, r = some v ∧ l[n]? = some x ∧ Instr.findNow d kv l i = some (some (i + n, x.val)) ∧ VA μ v x.val ∧ x.key = kv ∧ n = idxA key es ∧ ∀ val y, RE μ (key, val) y → All2 (RE μ) (putA key val es) (l.set n y))
  | [], l, r, i, H, h => by
    cases H; simp [findA] at h; subst h
    exact .inl ⟨rfl, rfl, fun _ => rfl⟩
  | (k', v') :: es, l, r, i, H, h => by
    cases H with
    | cons h1 h2 =>
      rename_i b l
      obtain ⟨hk1, hv1⟩ := h1
      simp only at hk1 hv1
      have step : ∀ (hne : key ≠ k') (hs : Instr.sameNow d kv b.key = some false) (h : findA key es = some r),
          (r = none ∧ Instr.findNow d kv (b :: l) i = some none ∧ ∀ val, putA key val ((k', v') :: es) = (k', v') :: es ++ [(key, val)]) ∨
          (∃ v n x, r = some v ∧ (b :: l)[n]? = some x ∧ Instr.findNow d kv (b :: l) i = some (some (i + n, x.val)) ∧ VA μ v x.val ∧ x.key = kv ∧ n = idxA key ((k', v') :: es) ∧ ∀ val y, RE μ (key, val) y → All2 (RE μ) (putA key val ((k', v') :: es)) ((b :: l).set n y)) := by
        intro hne hs h
        rcases find_sound hc (i + 1) h2 h with ⟨e1, e2, e3⟩ | ⟨v, n, x, e1, e2, e3, e4, e5, e7, e6⟩
        · refine .inl ⟨e1, by simp [Instr.findNow, hs, e2], fun val => ?_⟩
          simp [putA, hne, e3]
        · refine .inr ⟨v, n + 1, x, e1, by simpa using e2, ?_, e4, e5, by simp [idxA, hne, e7], fun val y hy => ?_⟩
          · simp [Instr.findNow, hs, e3]; omega
          · simp only [putA, hne, if_false, List.set_cons_succ]
            exact .cons ⟨hk1, hv1⟩ (e6 val y hy)
      have hit : ∀ (he : key = k') (hs : Instr.sameNow d kv b.key = some true) (hb : b.key = kv) (h : r = some v'),
          (∃ v n x, r = some v ∧ (b :: l)[n]? = some x ∧ Instr.findNow d kv (b :: l) i = some (some (i + n, x.val)) ∧ VA μ v x.val ∧ x.key = kv ∧ n = idxA key ((k', v') :: es) ∧ ∀ val y, RE μ (key, val) y → All2 (RE μ) (putA key val ((k', v') :: es)) ((b :: l).set n y)) := by
        intro he hs hb h
        refine ⟨v', 0, b, h, rfl, by simp [Instr.findNow, hs], hv1, hb, by simp [idxA, he], fun val y hy => ?_⟩
        simp only [putA, he, if_true, List.set_cons_zero]
        rw [he] at hy
        exact .cons hy h2
      rcases hc with ⟨q, n, rfl, rfl, rfl⟩ | ⟨m, rfl, rfl, rfl⟩
      · cases k' <;> simp only [findA] at h <;> (try cases h; done)
        rename_i q' n'
        have hbk : b.key = .int q' n' := hk1
        split at h
        · rename_i hq; subst hq
          split at h
          · rename_i hn; subst hn
            simp at h
            exact .inr (hit rfl (by simp [Instr.sameNow, hbk]) hbk h.symm)
          · rename_i hn
            exact step (by intro e; cases e; exact hn rfl) (by simp [Instr.sameNow, hbk, hn]) h
        · cases h
      · cases k' <;> simp only [findA] at h <;> (try cases h; done)
        rename_i m'
        have hbk : b.key = .string ⟨m'.toArray⟩ := hk1
        split at h
        · rename_i hn; subst hn
          simp at h
          exact .inr (hit rfl (by simp [Instr.sameNow, hbk, bytes_beq]) hbk h.symm)
        · rename_i hn
          exact step (by intro e; cases e; exact hn rfl) (by simp [Instr.sameNow, hbk, bytes_beq, hn]) h

theorem run_checkKey {tk : TK} {d : TypeDesc} {t : TypeId} {k : AV} {v : Value} (e : Bool) (hd : P.underlying t = some d) (hk : keyOk tk k = true) (hkb : kB tk d = true) (hv : VA μ k v) : (Instr.checkKey e 10000 t v).run P w = .ok () w := by
  rw [show (10000 : Nat) = 9999 + 1 from rfl, Instr.checkKey]
  rcases VA_key hv hk hkb with ⟨q, n, rfl, rfl, rfl⟩ | ⟨l, rfl, rfl, rfl⟩
  · simp [run_underlying hd]
  · simp [run_underlying hd]

theorem mapOf_sound (R : Rel base μ s w.heap) {m : TV} {mv : Value} {es : List (AV × AV)} (hm : VT μ m mv) (h : mapOf s m = some es) :
    (mv = .map none ∧ es = []) ∨ (∃ r l c, mv = .map (some r) ∧ w.heap[r]? = some (.map l c) ∧ All2 (RE μ) es l.toList) := by
  unfold mapOf at h
  split at h
  · cases h; cases hm; exact .inl ⟨rfl, rfl⟩
  · split at h
    · rename_i es' hb
      cases h
      obtain ⟨m, hm, rfl⟩ := hm
      obtain ⟨l, c, h1, h2, _⟩ := R.blk _ _ m hb hm
      exact .inr ⟨_, l, c, rfl, h1, h2⟩
    · cases h
  · cases h

theorem run_getMap {r : Nat} {l : Array MapEntry} {c : Nat} (h : w.heap[r]? = some (.map l c)) : (getObj r).run P w = .ok (.map l c) w := by simp [getObj, Sem.run, h]

theorem good_lookup (hT : tysB P T = true) (R : Rel base μ s w.heap) {t : TypeId} {m k r : TV} {ok : Bool} {mv kv : Value} (hm : VT μ m mv) (hk : VT μ k kv) (h : lookupA T t m k ok s = some r) :
    Good P base μ s w (Instr.lookup t mv kv ok) r s := by
  unfold lookupA at h
  split at h
  · rename_i kt et es key hkd hes
    obtain ⟨d, hrun, hu, hkb⟩ := kd_und hT hkd
    cases d <;> simp [kB] at hkb
    obtain ⟨rfl, rfl⟩ := hkb
    split at h
    · rename_i ki ei hki hei
      obtain ⟨inf1, d1, z1, K1⟩ := tysB_spec hT hki
      obtain ⟨inf2, d2, z2, K2⟩ := tysB_spec hT hei
      split at h
      · rename_i hc
        simp only [Bool.and_eq_true, Bool.not_eq_true'] at hc
        have key' := VA_key hk hc.1 K1.k
        have hck := fun e => run_checkKey (P := P) (w := w) (μ := μ) e K1.und hc.1 K1.k hk
        have hz := K2.zc μ
        rw [K2.leaf hc.2] at hz
        have fin : ∀ (l : Array MapEntry), All2 (RE μ) es l.toList → (∃ n v, (Instr.findKey kt kv l.toList).run P w = .ok (some (n, v)) w ∧ VT μ r (if ok = true then .tuple #[v, .bool true] else v)) ∨
            ((Instr.findKey kt kv l.toList).run P w = .ok none w ∧ VT μ r (if ok = true then .tuple #[z2, .bool false] else z2)) := by
          intro l hl
          cases hf : findA key es with
          | none => simp [hf] at h
          | some q =>
            rcases find_sound key' 0 hl hf with ⟨e1, e2, _⟩ | ⟨v, n, x, e1, e2, e3, e4, _, _, _⟩
            · subst e1
              simp only [hf] at h
              split at h
              · rename_i heq; cases heq
              · rename_i z _ hzz
                cases h
                rw [hzz] at hz
                cases hz with
                | cons hz1 hz2 =>
                  refine .inr ⟨by simp [Instr.findKey, run_und K1, e2], ?_⟩
                  cases ok
                  · exact hz1
                  · exact ⟨[z2, .bool false], rfl, .cons ⟨_, rfl, hz1⟩ (.cons ⟨_, rfl, rfl⟩ .nil)⟩
              · cases h
            · subst e1
              simp only [hf] at h
              cases h
              refine .inl ⟨n, x.val, by simp [Instr.findKey, run_und K1, e3], ?_⟩
              cases ok
              · exact e4
              · exact ⟨[x.val, .bool true], rfl, .cons ⟨_, rfl, e4⟩ (.cons ⟨_, rfl, rfl⟩ .nil)⟩
        rcases mapOf_sound R hm hes with ⟨rfl, rfl⟩ | ⟨b, l, c, rfl, hb, hl⟩
        · rcases fin #[] .nil with ⟨n, v, h1, h2⟩ | ⟨h1, h2⟩
          · refine Good.now R ?_ h2
            simp at h1
            simp [Instr.lookup, hrun, hck, h1]
          · refine Good.now R ?_ h2
            simp at h1
            simp [Instr.lookup, hrun, hck, h1, run_zero K2]
        · rcases fin l hl with ⟨n, v, h1, h2⟩ | ⟨h1, h2⟩
          · refine Good.now R ?_ h2
            simp [Instr.lookup, hrun, hck, run_getMap hb, h1]
          · refine Good.now R ?_ h2
            simp [Instr.lookup, hrun, hck, run_getMap hb, h1, run_zero K2]
      · cases h
    · cases h
  · cases h

theorem run_setMap {r : Nat} {l : Array MapEntry} {c : Nat} (o : Obj) (h : w.heap[r]? = some (.map l c)) : (setObj r o).run P w = .ok () { w with heap := w.heap.setIfInBounds r o } := by simp [setObj, Sem.run, h]

/-- an own map's content is another one -/
theorem Rel.putMap (R : Rel base μ s w.heap) {b : Nat} {es es' : List (AV × AV)} {m : Loc} (hb : s.get b = some ⟨true, .map es⟩) (hm : μ b = some m) (hlt : m.blk < w.heap.size) (l' : Array MapEntry) (c' : Nat) (hl' : All2 (RE μ) es' l'.toList)
    (hborn : c' = l'.size ∧ ∀ (i : Nat) (x : MapEntry), l'[i]? = some x → x.born = i) :
    Rel base μ (s.put b ⟨true, .map es'⟩) (w.heap.setIfInBounds m.blk (.map l' c')) ∧ Grow base μ s w μ (s.put b ⟨true, .map es'⟩) { w with heap := w.heap.setIfInBounds m.blk (.map l' c') } :=
  Rel.put (w' := { w with heap := w.heap.setIfInBounds m.blk (.map l' c') }) R hb hm _ (by simp) (fun x hx => by simp [Array.getElem?_setIfInBounds_ne (Ne.symm hx)]) ⟨l', c', by simp [hlt], hl', fun _ => hborn⟩ rfl rfl rfl

theorem born_push {l : Array MapEntry} {c : Nat} {k v : Value} (h : c = l.size ∧ ∀ (i : Nat) (x : MapEntry), l[i]? = some x → x.born = i) : c + 1 = (l.push { key := k, val := v, born := c }).size ∧ ∀ (i : Nat) (x : MapEntry), (l.push { key := k, val := v, born := c })[i]? = some x → x.born = i := by
  refine ⟨by simp [h.1], fun i x hx => ?_⟩
  rw [Array.getElem?_push] at hx
  split at hx
  · cases hx; simp [h.1]; omega
  · exact h.2 i x hx
theorem born_modify {l : Array MapEntry} {c n : Nat} {f : MapEntry → MapEntry} (hf : ∀ x, (f x).born = x.born) (h : c = l.size ∧ ∀ (i : Nat) (x : MapEntry), l[i]? = some x → x.born = i) : c = (l.modify n f).size ∧ ∀ (i : Nat) (x : MapEntry), (l.modify n f)[i]? = some x → x.born = i := by
  refine ⟨by simp [h.1], fun i x hx => ?_⟩
  rw [Array.getElem?_modify] at hx
  split at hx
  · cases hl : l[i]? with
    | none => simp [hl] at hx
    | some y => simp [hl] at hx; subst hx; rw [hf]; exact h.2 i y hl
  · exact h.2 i x hx
theorem modify_list {l : Array MapEntry} {n : Nat} {x : MapEntry} (f : MapEntry → MapEntry) (hn : l[n]? = some x) : (l.modify n f).toList = l.toList.set n (f x) := by
  rw [Array.toList_modify]
  apply List.ext_getElem?
  intro i
  rw [List.getElem?_modify, List.getElem?_set]
  have hlt : n < l.size := (Array.getElem?_eq_some_iff.1 hn).1
  by_cases hi : n = i
  · subst hi
    have hlx : l[n] = x := by rw [Array.getElem?_eq_getElem hlt] at hn; exact Option.some.inj hn
    simp [hlt, hlx]
  · simp [hi]
theorem set_self {α : Type} {l : List α} {n : Nat} {x : α} (h : l[n]? = some x) : l.set n x = l := by
  apply List.ext_getElem?
  intro i
  rw [List.getElem?_set]
  by_cases hi : n = i
  · subst hi
    have hlt : n < l.length := (List.getElem?_eq_some_iff.1 h).1
    rw [if_pos rfl, if_pos hlt, h]
  · rw [if_neg hi]
theorem run_stay {kv : Value} (h : (∃ q n, kv = .int q n) ∨ ∃ l, kv = .string ⟨l⟩) : (Instr.keyThatStays kv kv).run P w = .ok kv w := by
  unfold Instr.keyThatStays
  rcases h with ⟨q, n, rfl⟩ | ⟨l, rfl⟩
  · simp [Instr.sameBits]
  · cases l with
    | mk l =>
      have : ((⟨⟨l⟩⟩ : ByteArray) == ⟨⟨l⟩⟩) = true := by have := bytes_beq l l; simpa using this
      simp [Instr.sameBits, this]
theorem key_simple {d : TypeDesc} {key : AV} {kv : Value} (h : (∃ q n, key = .int q n ∧ kv = .int q n ∧ d = .int q) ∨ (∃ l, key = .str l ∧ kv = .string ⟨l.toArray⟩ ∧ d = .string)) : (∃ q n, kv = .int q n) ∨ ∃ l, kv = .string ⟨l⟩ := by
  rcases h with ⟨q, n, _, h, _⟩ | ⟨l, _, h, _⟩
  · exact .inl ⟨q, n, h⟩
  · exact .inr ⟨_, h⟩

theorem good_update (hT : tysB P T = true) (R : Rel base μ s w.heap) {t : TypeId} {m k x : TV} {mv kv xv : Value} {s' : St} (hm : VT μ m mv) (hk : VT μ k kv) (hx : VT μ x xv) (h : updateA T t m k x s = some s') :
    GoodU P base μ s w (Instr.mapUpdate t mv kv xv) s' := by
  unfold updateA at h
  split at h
  · rename_i kt et b key val hkd
    obtain ⟨d, hrun, hu, hkb⟩ := kd_und hT hkd
    cases d <;> simp [kB] at hkb
    obtain ⟨rfl, rfl⟩ := hkb
    split at h
    · rename_i ki es hki hb
      obtain ⟨inf1, d1, z1, K1⟩ := tysB_spec hT hki
      split at h
      · rename_i hc
        have key' := VA_key hk hc K1.k
        have hck := fun e => run_checkKey (P := P) (w := w) (μ := μ) e K1.und hc K1.k hk
        obtain ⟨m, hm, rfl⟩ := hm
        obtain ⟨l, c, h1, h2, h3⟩ := R.blk _ _ m hb hm
        have hlt : m.blk < w.heap.size := (Array.getElem?_eq_some_iff.1 h1).1
        split at h
        · rename_i q hf
          cases h
          rcases find_sound key' 0 h2 hf with ⟨e1, e2, e3⟩ | ⟨v, n, x, e1, e2, e3, e4, e5, e7, e6⟩
          · have hf' : (Instr.findKey kt kv l.toList).run P w = .ok none w := by simp [Instr.findKey, run_und K1, e2]
            obtain ⟨p1, p2⟩ := R.putMap hb hm hlt (l.push { key := kv, val := xv, born := c }) (c + 1) (es' := putA key val es) (by
              rw [e3]; simp only [Array.toList_push]
              exact forall₂_append h2 (.cons ⟨hk, hx⟩ .nil)) (born_push (h3 rfl))
            refine ⟨_, _, ?_, p1, p2⟩
            simp [Instr.mapUpdate, hrun, hck, run_getMap h1, hf', run_setMap _ h1]
          · have hf' : (Instr.findKey kt kv l.toList).run P w = .ok (some (n, x.val)) w := by simp [Instr.findKey, run_und K1, e3]
            have hn : l[n]? = some x := by simpa using e2
            have hstay := run_stay (P := P) (w := w) (key_simple key')
            obtain ⟨p1, p2⟩ := R.putMap hb hm hlt (l.modify n fun e => { e with key := kv, val := xv }) c (es' := putA key val es) (by
              rw [modify_list _ hn]; exact e6 val _ ⟨hk, hx⟩) (born_modify (fun _ => rfl) (h3 rfl))
            refine ⟨_, _, ?_, p1, p2⟩
            simp [Instr.mapUpdate, hrun, hck, run_getMap h1, hf', run_setMap _ h1, hn, e5, hstay]
        · cases h
      · cases h
    · cases h
  · cases h

theorem good_entry (hT : tysB P T = true) (R : Rel base μ s w.heap) {t : TypeId} {m k r : TV} {mv kv : Value} {s' : St} (hm : VT μ m mv) (hk : VT μ k kv) (h : entryA T t m k s = some (r, s')) :
    Good P base μ s w (Instr.mapEntry t mv kv) r s' := by
  unfold entryA at h
  split at h
  · rename_i kt et b key hkd
    obtain ⟨d, hrun, hu, hkb⟩ := kd_und hT hkd
    cases d <;> simp [kB] at hkb
    obtain ⟨rfl, rfl⟩ := hkb
    split at h
    · rename_i ki ei es hki hei hb
      obtain ⟨inf1, d1, z1, K1⟩ := tysB_spec hT hki
      obtain ⟨inf2, d2, z2, K2⟩ := tysB_spec hT hei
      split at h
      · rename_i hc
        simp only [Bool.and_eq_true, Bool.not_eq_true'] at hc
        have key' := VA_key hk hc.1 K1.k
        have hck := fun e => run_checkKey (P := P) (w := w) (μ := μ) e K1.und hc.1 K1.k hk
        have hz := K2.zc μ
        rw [K2.leaf hc.2] at hz
        obtain ⟨m, hm, rfl⟩ := hm
        obtain ⟨l, c, h1, h2, h3⟩ := R.blk _ _ m hb hm
        have hlt : m.blk < w.heap.size := (Array.getElem?_eq_some_iff.1 h1).1
        have hll := forall₂_length h2
        cases hf : findA key es with
        | none => simp [hf] at h
        | some q =>
          rcases find_sound key' 0 h2 hf with ⟨e1, e2, e3⟩ | ⟨v, n, x, e1, e2, e3, e4, e5, e7, e6⟩
          · subst e1
            simp only [hf] at h
            split at h
            · rename_i heq; cases heq
            · rename_i z _ hzz
              cases h
              rw [hzz] at hz
              cases hz with
              | cons hz1 hz2 =>
                have hf' : (Instr.findKey kt kv l.toList).run P w = .ok none w := by simp [Instr.findKey, run_und K1, e2]
                obtain ⟨p1, p2⟩ := R.putMap hb hm hlt (l.push { key := kv, val := z2, born := c }) (c + 1) (es' := es ++ [(key, z)]) (by
                  simp only [Array.toList_push]
                  exact forall₂_append h2 (.cons ⟨hk, hz1⟩ .nil)) (born_push (h3 rfl))
                refine ⟨_, _, .tuple #[z2, goInt c], ?_, ⟨[z2, goInt c], rfl, .cons ⟨_, rfl, hz1⟩ (.cons ⟨_, rfl, ?_⟩ .nil)⟩, p1, p2⟩
                · simp [Instr.mapEntry, hrun, hck, run_getMap h1, hf', run_setMap _ h1, run_zero K2]
                · simp only [Array.length_toList] at hll
                  show goInt _ = _
                  rw [(h3 rfl).1, ← hll]; rfl
            · cases h
          · subst e1
            simp only [hf] at h
            cases h
            have hn : l[n]? = some x := by simpa using e2
            have hf' : (Instr.findKey kt kv l.toList).run P w = .ok (some (n, x.val)) w := by simp [Instr.findKey, run_und K1, e3]
            have hstay := run_stay (P := P) (w := w) (key_simple key')
            obtain ⟨p1, p2⟩ := R.putMap hb hm hlt (l.modify n fun e => { e with key := kv }) c (es' := es) (by
              have hx : ({ x with key := kv } : MapEntry) = x := by rw [← e5]
              rw [modify_list _ hn, hx, set_self e2]
              exact h2) (born_modify (fun _ => rfl) (h3 rfl))
            refine ⟨_, _, .tuple #[x.val, goInt x.born], ?_, ⟨[x.val, goInt x.born], rfl, .cons ⟨_, rfl, e4⟩ (.cons ⟨_, rfl, ?_⟩ .nil)⟩, p1, p2⟩
            · simp [Instr.mapEntry, hrun, hck, run_getMap h1, hf', run_setMap _ h1, hn, e5, hstay]
            · show goInt _ = _
              rw [(h3 rfl).2 n x hn, e7]; rfl
      · cases h
    · cases h
  · cases h

theorem good_entryStore (t : TypeId) (R : Rel base μ s w.heap) {m st x : TV} {mv sv xv : Value} {s' : St} (hm : VT μ m mv) (hs : VT μ st sv) (hx : VT μ x xv) (h : storeA m st x s = some s') :
    GoodU P base μ s w (Instr.entryStore t mv sv xv) s' := by
  unfold storeA at h
  split at h
  · rename_i b k n val
    split at h
    · rename_i es hb
      split at h
      · rename_i h0
        split at h
        · rename_i p hp
          cases h
          obtain ⟨m, hm, rfl⟩ := hm
          cases hs
          obtain ⟨l, c, h1, h2, h3⟩ := R.blk _ _ m hb hm
          have hlt : m.blk < w.heap.size := (Array.getElem?_eq_some_iff.1 h1).1
          obtain ⟨y, hy, hr⟩ := forall₂_get h2 _ _ hp
          have hn : l[n.toNat]? = some y := by simpa using hy
          have hlt' : n.toNat < l.size := (Array.getElem?_eq_some_iff.1 hn).1
          have hfind : l.findIdx? (fun e => (e.born : Int) == n) = some n.toNat := by
            rw [Array.findIdx?_eq_some_iff_getElem]
            have hby := (h3 rfl).2 _ _ hn
            have hyy : l[n.toNat] = y := by rw [Array.getElem?_eq_getElem hlt'] at hn; exact Option.some.inj hn
            refine ⟨hlt', by rw [hyy, hby]; simp; omega, fun j hj => ?_⟩
            have := (h3 rfl).2 j l[j] (by simp)
            rw [this]; simp; omega
          obtain ⟨p1, p2⟩ := R.putMap hb hm hlt (l.modify n.toNat fun e => { e with val := xv }) c (es' := es.set n.toNat (p.1, val)) (by
            rw [modify_list _ hn]
            apply forall₂_of_get (by simp [forall₂_length h2])
            intro i a hi
            rw [List.getElem?_set] at hi ⊢
            by_cases e : n.toNat = i
            · subst e
              have hl1 : n.toNat < es.length := (List.getElem?_eq_some_iff.1 hp).1
              simp [hl1] at hi
              subst hi
              refine ⟨{ y with val := xv }, by simp [hlt'], hr.1, hx⟩
            · rw [if_neg e] at hi ⊢
              exact forall₂_get h2 i a hi) (born_modify (fun _ => rfl) (h3 rfl))
          refine ⟨_, _, ?_, p1, p2⟩
          simp [Instr.entryStore, run_getMap h1, asInt, asIntOf, hfind, run_setMap _ h1]
        · cases h
      · cases h
    · cases h
  · cases h

theorem good_rangeMap (hT : tysB P T = true) (R : Rel base μ s w.heap) {t : TypeId} {kt et b : Nat} {es : List (AV × AV)} {v : Value} (ht : T.kd t = some (.map kt et)) (hb : s.get b = some ⟨true, .map es⟩) (hv : VT μ (.v (.map b)) v) :
    Good P base μ s w (Instr.range t v) (.v (.ptr s.next 0)) (s.new ⟨true, .miter b es.length []⟩) := by
  obtain ⟨d, hrun, hu, hkb⟩ := kd_und hT ht
  cases d <;> simp [kB] at hkb
  obtain ⟨rfl, rfl⟩ := hkb
  obtain ⟨m, hm, rfl⟩ := hv
  obtain ⟨l, c, h1, h2, h3⟩ := R.blk _ _ m hb hm
  have hcl : c = es.length := by rw [(h3 rfl).1, forall₂_length h2, Array.length_toList]
  obtain ⟨g1, g2⟩ := R.alloc ⟨true, .miter b es.length []⟩ ⟨w.heap.size, 0, 0⟩ (.mapIter (some m.blk) c #[] c) rfl (fun μ' hle hp h hh => ⟨rfl, m, hle _ _ hm, by rw [← hcl]; exact hh⟩)
  refine ⟨_, _, .pointer (some ⟨w.heap.size, 0, none⟩), ?_, ⟨⟨w.heap.size, 0, 0⟩, by simp [Mu.set], rfl⟩, g1, g2⟩
  simp [Instr.range, hrun, run_getMap h1]
end
end Go.Proofs.YtijkkgloennglaaGreatDoor.Ab
