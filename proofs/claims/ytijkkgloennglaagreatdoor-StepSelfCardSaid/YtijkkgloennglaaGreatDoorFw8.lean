/-
  Each step of the abstract machine is one of the model's: all together. No condition.
-/
import Derived.Test.YtijkkgloennglaaGreatDoorFw7
import Derived.Maps.RangeRun
set_option linter.all false
namespace Go.Proofs.YtijkkgloennglaaGreatDoor.Ab
open Go Go.RowKit

section
variable {P : Program} {T : Tys} {base : Nat} {μ : Mu} {s : St} {w : World}

/-- an operation of the model's that goes as the abstract machine says -/
def GoodO (P : Program) (base : Nat) (μ : Mu) (s : St) (w : World) (m : Sem Next) (x : TV) (s' : St) : Prop :=
  ∃ μ' w', ((∃ v, m.run P w = .ok (.value v) w' ∧ VT μ' x v) ∨ (m.run P w = .ok .skip w' ∧ x = .tup [])) ∧ Rel base μ' s' w'.heap ∧ Grow base μ s w μ' s' w'

theorem Good.op {m : Sem Value} {x : TV} {s' : St} (h : Good P base μ s w m x s') : GoodO P base μ s w (do pure (Next.value (← m))) x s' := by
  obtain ⟨μ', w', v, h1, h2, h3, h4⟩ := h
  exact ⟨μ', w', .inl ⟨v, by simp [h1], h2⟩, h3, h4⟩
theorem GoodU.op {m : Sem Unit} {s' : St} (h : GoodU P base μ s w m s') : GoodO P base μ s w (do m; pure Next.skip) (.tup []) s' := by
  obtain ⟨μ', w', h1, h3, h4⟩ := h
  exact ⟨μ', w', .inr ⟨by simp [h1], rfl⟩, h3, h4⟩

theorem good_makeFunc (R : Rel base μ s w.heap) {f : FuncId} {e : Env} {a : Act} (hE : VEnv μ e a.tmps) {first captured : Array Operand} {p q : List TV} {ps qs : List (Nat × Nat)} (h1 : opds s.gl e first.toList = some p) (h2 : opds s.gl e captured.toList = some q) (h3 : ptrs p = some ps) (h4 : ptrs q = some qs) :
    Good P base μ s w (Instr.makeFunc (.func f) (first.map a.eval) (captured.map a.eval)) (.v (.fn f ps qs)) s := by
  refine Good.now R (v := .func (.func f) (first.map a.eval) (captured.map a.eval)) rfl ⟨first.toList.map a.eval, captured.toList.map a.eval, ?_, ptrs_sound h3 (opds_sound R hE h1), ptrs_sound h4 (opds_sound R hE h2)⟩
  congr 1
  · apply Array.ext'; simp
  · apply Array.ext'; simp

theorem VO_opd (R : Rel base μ s w.heap) {e : Env} {a : Act} (hE : VEnv μ e a.tmps) {o : Option Operand} {r : Option TV} (h : bnd s.gl e o = some r) : VO μ r (o.map a.eval) := by
  cases o with
  | none => cases h; trivial
  | some y =>
    cases hy : opd s.gl e y with
    | none => simp [bnd, hy] at h
    | some v => simp [bnd, hy] at h; subst h; exact opd_sound R hE hy

theorem minA_sound (R : Rel base μ s w.heap) {b : Bool} {l : List TV} {vs : List Value} {x : TV} (t : TypeId) (ts : Array TypeId) (hv : All2 (VT μ) l vs) (h : minA b l = some x) :
    Good P base μ s w (if b then Builtin.max_ ts t vs.toArray else Builtin.min_ ts t vs.toArray) x s := by
  unfold minA at h
  split at h
  · rename_i k p k' q
    cases hv with
    | cons h1 h2 =>
      cases h2 with
      | cons h3 h4 =>
        cases h4; cases h1; cases h3
        split at h
        · rename_i hk; subst hk
          cases h
          cases b
          · refine Good.now R ?_ rfl
            simp [Builtin.min_, Builtin.min2]
          · refine Good.now R ?_ rfl
            simp [Builtin.max_, Builtin.max2]
        · cases h
  · cases h

theorem lenA_sound (hT : tysB P T = true) (R : Rel base μ s w.heap) {t ty : TypeId} {ts : Array TypeId} (h0 : ts[0]? = some t) {x r : TV} {xv : Value} (hx : VT μ x xv) (h : lenA T t x s = some r) : Good P base μ s w (Builtin.len_ ts ty #[xv]) r s := by
  unfold lenA at h
  split at h
  · rename_i l hk
    obtain ⟨d, hrun, hu, hkb⟩ := kd_und hT hk
    cases d <;> simp [kB] at hkb
    cases h; cases hx
    exact Good.now R (by simp [Builtin.len_, h0, hrun, goInt, show (⟨l.toArray⟩ : ByteArray).size = l.length by simp [ByteArray.size]]) rfl
  · rename_i e hk
    obtain ⟨d, hrun, hu, hkb⟩ := kd_und hT hk
    cases d <;> simp [kB] at hkb
    cases h; cases hx
    exact Good.now R (v := .int .i64 0) (by simp [Builtin.len_, h0, hrun, goInt]) rfl
  · rename_i e hk
    obtain ⟨d, hrun, hu, hkb⟩ := kd_und hT hk
    cases d <;> simp [kB] at hkb
    cases h; obtain ⟨ad, rfl⟩ := hx
    exact Good.now R (v := .int .i64 0) (by simp [Builtin.len_, h0, hrun, goInt]) rfl
  · rename_i e b off n es cap hk
    obtain ⟨d, hrun, hu, hkb⟩ := kd_und hT hk
    cases d <;> simp [kB] at hkb
    cases h; obtain ⟨m, o, c, hm, rfl, _⟩ := hx
    exact Good.now R (v := .int .i64 n) (by simp [Builtin.len_, h0, hrun, goInt]) rfl
  · rename_i n e cs hk
    obtain ⟨d, hrun, hu, hkb⟩ := kd_und hT hk
    cases d <;> simp [kB] at hkb
    cases h
    obtain ⟨rfl, rfl⟩ := hkb
    exact Good.now R (v := .int .i64 n) (by simp [Builtin.len_, h0, hrun, goInt]) rfl
  · rename_i x _ _ k e hk
    obtain ⟨d, hrun, hu, hkb⟩ := kd_und hT hk
    cases d <;> simp [kB] at hkb
    cases hm : mapOf s x with
    | none => simp [hm] at h
    | some es =>
      simp [hm] at h; subst h
      rcases mapOf_sound R hx hm with ⟨rfl, rfl⟩ | ⟨b, l, c, rfl, hb, hl⟩
      · exact Good.now R (v := .int .i64 0) (by simp [Builtin.len_, h0, hrun, goInt]) rfl
      · refine Good.now R (v := .int .i64 l.size) (by simp [Builtin.len_, h0, hrun, goInt, run_getMap hb]) ?_
        have := forall₂_length hl
        simp at this
        rw [this]; rfl
  · cases h

theorem good_buildArr (hT : tysB P T = true) (R : Rel base μ s w.heap) {t et n : TypeId} {i ie : TyI} {ps : List (Nat × TV)} {vs : Array (Nat × Value)} {r : List AV}
    (ht : T.at t = some i) (hk : i.k = .arr n et) (he : T.at et = some ie) (hps : All2 (fun a b => a.1 = b.1 ∧ VT μ a.2 b.2) ps vs.toList) (hf : fillA (fun j => some (j * ie.size, ie.size)) i.zero ps = some r) :
    Good P base μ s w (Instr.build t vs) (.agg r) s := by
  obtain ⟨inf, d, z, K⟩ := tysB_spec hT ht
  obtain ⟨inf', d', z', K'⟩ := tysB_spec hT he
  have hk' := K.k
  rw [hk] at hk'
  cases d <;> simp [kB] at hk'
  obtain ⟨rfl, rfl⟩ := hk'
  obtain ⟨ws', h1, h2⟩ := fill_sound (place' := fun j => some (j * ie.size, ie.size)) (by intro i p hp; exact hp) hps hf (K.zc μ)
  refine Good.now R (v := .agg ws') ?_ ⟨ws'.toList, by simp, h2⟩
  simp [Instr.build, run_zero K, run_und K, run_size K', h1]

theorem partVC {μ : Mu} {p : Bool × List AV} {x : TV} {v : Value} (h : ofPart p = some x) (hv : VC μ p v) : VT μ x v := by
  unfold ofPart at h
  split at h
  · cases h; obtain ⟨a, e, r⟩ := hv; cases e; exact r
  · cases h
  · cases h; exact hv

theorem alloc_makeSlice (hT : tysB P T = true) {t et : TypeId} {i : TyI} {n m : Int} {k k' : IntKind} (ht : T.kd t = some (.slice et)) (he : T.at et = some i) (h0 : 0 ≤ n) (h1 : n ≤ m) (h2 : m ≤ 1099511627776) (h3 : i.bytes * m.toNat ≤ 1099511627776) :
    AllocRun P μ (Instr.makeSlice t (.int k n) (.int k' m)) (fun b => .v (.sl b 0 n.toNat i.size (some m.toNat))) (.cells (zeros i.zero m.toNat)) := by
  obtain ⟨d, hrun, hu, hkb⟩ := kd_und hT ht
  cases d <;> simp [kB] at hkb
  subst hkb
  obtain ⟨inf', d', z', K'⟩ := tysB_spec hT he
  have hz := zeros_sound (K'.zc μ) m.toNat
  have hzl := forall₂_length (K'.zc μ)
  simp only [Array.length_toList] at hzl
  have hsz : z'.cells.size = i.size := by rw [← K'.zl, hzl]
  rw [hsz] at hz
  have w1 : IntKind.i64.wrap n = n := by simp [IntKind.wrap, IntKind.bits, IntKind.signed]; omega
  have w2 : IntKind.i64.wrap m = m := by simp [IntKind.wrap, IntKind.bits, IntKind.signed]; omega
  refine ⟨.cells ((Array.range (m.toNat * i.size)).map (fun x => z'.cells[x % i.size]!)) et, fun b => .slice (some ⟨b, 0, none⟩) n.toNat m.toNat, (((Array.range (m.toNat * i.size)).map (fun x => z'.cells[x % i.size]!)).toList).length, fun w => ?_, fun μ' b blk hn => ⟨_, 0, m.toNat, hn, rfl, fun _ => by simp, by omega, fun k hk => by cases hk; rfl, fun hk => by cases hk⟩, fun μ' hle h blk hh => cells_BRel _ _ et (hz.mono hle) h blk (by rw [Array.toArray_toList]; exact hh)⟩
  have b1 : (i.bytes : Int) * m ≤ 1099511627776 := by
    have : ((i.bytes * m.toNat : Nat) : Int) ≤ 1099511627776 := by omega
    rw [Int.natCast_mul, Int.toNat_of_nonneg (by omega)] at this; exact this
  have b2 : (i.bytes : Int) * n ≤ 1099511627776 := Int.le_trans (Int.mul_le_mul_of_nonneg_left h1 (by omega)) b1
  have t1 : ¬ ((decide (m < 0) || decide ((i.bytes : Int) * m > 2 ^ 48)) || decide (n < 0) || decide (n > m)) = true := by
    simp; omega
  have hroom : ¬ (m.toNat * i.bytes > roomBytes) := by rw [Nat.mul_comm]; simp [roomBytes]; omega
  simp only [Instr.makeSlice, Sem.run_bind, hrun, Result.andThen_ok, asInt, asIntOf, Sem.run_pure, run_info K', K'.bytes, w1, w2]
  rw [if_neg t1]
  simp only [askRoom, if_neg hroom, run_size K', Sem.run_bind, Sem.run_pure, Result.andThen_ok]
  by_cases c : m.toNat * i.size = 0
  · simp [c, newRow, show Array.range 0 = #[] from rfl]
  · simp [c, run_zero K', newRow, hsz]

theorem alloc_range (hT : tysB P T = true) {t : TypeId} {l : List UInt8} (ht : T.kd t = some .str) : AllocRun P μ (Instr.range t (.string ⟨l.toArray⟩)) (fun n => .v (.ptr n 0)) (.siter l 0) := by
  obtain ⟨d, hrun, hu, hkb⟩ := kd_und hT ht
  cases d <;> simp [kB] at hkb
  refine ⟨.stringIter ⟨l.toArray⟩ 0, fun n => .pointer (some ⟨n, 0, none⟩), 0, fun w => by simp [Instr.range, hrun], fun _ _ _ hn => ⟨_, hn, rfl⟩, fun _ _ _ _ hh => ⟨rfl, hh⟩⟩

def OpRun (P : Program) (μ : Mu) (m : Sem Next) (f : Nat → TV) (k : BK) : Prop := ∃ m', m = (do pure (Next.value (← m'))) ∧ AllocRun P μ m' f k

theorem allocA_sound (hT : tysB P T = true) (R : Rel base μ s w.heap) {e : Env} {a : Act} (hE : VEnv μ e a.tmps) {o : Oper} {f : Nat → TV} {k : BK} (h : allocA T s.gl o.op e = some (f, k)) : OpRun P μ (execOp a.eval o) f k := by
  obtain ⟨dst, op, type, pos, after, guard⟩ := o
  unfold allocA at h
  simp only at h
  split at h
  · rename_i t
    split at h
    · rename_i i ht
      cases h; exact ⟨_, rfl, alloc_alloc hT ht⟩
    · cases h
  · rename_i t x
    split at h
    · rename_i v hv
      split at h
      · rename_i cs hc
        cases h; exact ⟨_, rfl, alloc_newVar t (VT.cells (opd_sound R hE hv) hc)⟩
      · cases h
    · cases h
  · rename_i t len ps
    split at h
    · rename_i et l ht hps
      split at h
      · rename_i i hi
        split at h
        · cases h
        · rename_i hc
          split at h
          · rename_i cs hf
            cases h
            refine ⟨_, rfl, alloc_buildSlice hT ht hi hc ?_ hf⟩
            have := partsOf_sound R hE hps
            simpa using this
          · cases h
      · cases h
    · cases h
  · rename_i t
    cases h; exact ⟨_, rfl, alloc_makeMap t⟩
  · rename_i t l c
    split at h
    · rename_i et k1 n k2 m ht hl hc
      split at h
      · rename_i i hi
        split at h
        · rename_i hh
          cases h
          have hv1 : a.eval l = .int k1 n := opd_sound R hE hl
          have hv2 : a.eval c = .int k2 m := opd_sound R hE hc
          refine ⟨Instr.makeSlice t (a.eval l) (a.eval c), rfl, ?_⟩
          rw [hv1, hv2]; exact alloc_makeSlice hT ht hi hh.1 hh.2.1 hh.2.2.1 hh.2.2.2
        · cases h
      · cases h
    · cases h
  · cases h

theorem pure_sound (hT : tysB P T = true) (R : Rel base μ s w.heap) {e : Env} {a : Act} (hE : VEnv μ e a.tmps) {o : Oper} {x : TV} (hc : clsOf o.op = .pure) (h : pureA T s.gl o.op e = some x) : GoodO P base μ s w (execOp a.eval o) x s := by
  obtain ⟨dst, op, type, pos, after, guard⟩ := o
  have pureV : ∀ {y : Operand} {x : TV}, opd s.gl e y = some x → GoodO P base μ s w (pure (.value (a.eval y)) : Sem Next) x s := fun hy =>
    ⟨μ, w, .inl ⟨_, rfl, opd_sound R hE hy⟩, R, .refl _ _ _ _⟩
  cases op <;> (try (cases hc; done)) <;> (try simp only [pureA] at h) <;> (try simp only [execOp])
  case move y => exact pureV h
  case assign y => exact pureV h
  case pick c p q =>
    split at h
    · rename_i hc
      have hcv : a.eval c = .bool true := opd_sound R hE hc
      exact ⟨μ, w, .inl ⟨_, by simp [hcv, asBool], opd_sound R hE h⟩, R, .refl _ _ _ _⟩
    · rename_i hc
      have hcv : a.eval c = .bool false := opd_sound R hE hc
      exact ⟨μ, w, .inl ⟨_, by simp [hcv, asBool], opd_sound R hE h⟩, R, .refl _ _ _ _⟩
    · cases h
  case build t ps =>
    split at h
    · rename_i fs sz by_ zero l ht hps
      split at h
      · rename_i pl hpl
        cases hf : fillA (pl[·]?) zero l <;> simp [hf] at h
        subst h
        refine (good_buildStruct hT R ht rfl hpl ?_ hf).op
        have := partsOf_sound R hE hps
        simpa using this
      · cases h
    · rename_i n et sz by_ zero l ht hps
      split at h
      · rename_i i hi
        cases hf : fillA (fun j => some (j * i.size, i.size)) zero l <;> simp [hf] at h
        subst h
        refine (good_buildArr hT R ht rfl hi ?_ hf).op
        have := partsOf_sound R hE hps
        simpa using this
      · cases h
    · cases h
  case nilCheck y =>
    split at h
    · rename_i b off hy
      cases h
      have hv := opd_sound R hE hy
      have hv' := hv
      obtain ⟨m, hm, he⟩ := hv'
      refine ⟨μ, w, .inl ⟨a.eval y, ?_, hv⟩, R, .refl _ _ _ _⟩
      rw [he]; rfl
    · rename_i f p q hy
      cases h
      have hv := opd_sound R hE hy
      have hv' := hv
      obtain ⟨p', q', he, _⟩ := hv'
      refine ⟨μ, w, .inl ⟨a.eval y, ?_, hv⟩, R, .refl _ _ _ _⟩
      rw [he]; rfl
    · cases h
  case binOp op t y z yt =>
    split at h
    · rename_i p q hp hq
      exact (good_bin hT R y z (opd_sound R hE hp) (opd_sound R hE hq) h).op
    · cases h
  case unOp op t y =>
    split at h
    · rename_i p hp
      exact (good_un R (opd_sound R hE hp) h).op
    · cases h
  case convert src dst y =>
    split at h
    · rename_i k1 k2 k3 n hs hd hy
      cases h
      obtain ⟨d1, r1, _, b1⟩ := kd_und hT hs
      obtain ⟨d2, r2, _, b2⟩ := kd_und hT hd
      cases d1 <;> simp [kB] at b1
      cases d2 <;> simp [kB] at b2
      have hv : a.eval y = .int k3 n := opd_sound R hE hy
      subst b2
      exact (Good.now (x := .v (.int k2 (k2.wrap n))) R (v := .int k2 (k2.wrap n)) (by simp [convert, r1, r2, hv, Conv.intToInt]) rfl).op
    · rename_i l hs hd hy
      cases h
      obtain ⟨d1, r1, _, b1⟩ := kd_und hT hs
      obtain ⟨d2, r2, _, b2⟩ := kd_und hT hd
      cases d1 <;> simp [kB] at b1
      cases d2 <;> simp [kB] at b2
      have hv : a.eval y = .string ⟨l.toArray⟩ := opd_sound R hE hy
      exact (Good.now (x := .v (.str l)) R (v := .string ⟨l.toArray⟩) (by simp [convert, r1, r2, hv]) rfl).op
    · cases h
  case makeFunc fn first captured =>
    cases fn <;> simp only at h <;> (try (cases h; done))
    rename_i f
    split at h
    · rename_i p q hp hq
      split at h
      · rename_i ps qs hps hqs
        cases h
        exact (good_makeFunc R hE hp hq hps hqs).op
      · cases h
    · cases h
  case slice t y lo hi mx =>
    split at h
    · rename_i v l hh m hy h1 h2 h3
      exact (good_slice hT R (opd_sound R hE hy) (VO_opd R hE h1) (VO_opd R hE h2) (VO_opd R hE h3) h).op
    · cases h
  case fieldAddr st y f =>
    split at h
    · rename_i fs b off hs hy
      split at h
      · rename_i fo ft hf
        split at h
        · rename_i i hi
          split at h
          · cases h
          · rename_i hz
            cases h
            exact (good_fieldAddr hT R hs (opd_sound R hE hy) hf hi hz).op
        · cases h
      · cases h
    · cases h
  case field t y f =>
    split at h
    · rename_i fs cs hs hy
      split at h
      · rename_i fo ft hf
        split at h
        · rename_i i hi
          exact (good_field hT R hs (opd_sound R hE hy) hf hi h).op
        · cases h
      · cases h
    · cases h
  case indexAddr t y z =>
    split at h
    · rename_i et b off len es cap k i ht hy hz
      split at h
      · rename_i ti he
        split at h
        · rename_i hc
          cases h
          exact (good_indexSlice hT R ht (opd_sound R hE hy) (opd_sound R hE hz) he hc.1 hc.2.1 hc.2.2).op
        · cases h
      · cases h
    · rename_i n et b off k i ht hy hz
      split at h
      · rename_i ti he
        split at h
        · rename_i hc
          cases h
          exact (good_indexArr hT R ht (opd_sound R hE hy) (opd_sound R hE hz) he hc.1 hc.2).op
        · cases h
      · cases h
    · cases h
  case index t y z =>
    split at h
    · rename_i n et cs k i ht hy hz
      split at h
      · rename_i ti he
        split at h
        · rename_i hc
          exact (good_indexAgg hT R ht (opd_sound R hE hy) (opd_sound R hE hz) he hc.1 hc.2 h).op
        · cases h
      · cases h
    · rename_i l k i ht hy hz
      split at h
      · rename_i h0
        cases hc : l[i.toNat]? <;> simp [hc] at h
        subst h
        exact (good_indexStr hT R ht (opd_sound R hE hy) (opd_sound R hE hz) h0 hc).op
      · cases h
    · cases h
  case extract y i =>
    split at h
    · rename_i xs hy
      split at h
      · rename_i p hp
        obtain ⟨l, hl, hv⟩ := opd_sound R hE hy
        obtain ⟨v, hv1, hv2⟩ := forall₂_get hv _ _ hp
        refine (Good.now R (v := v) ?_ (partVC h hv2)).op
        rw [hl]
        simp [Instr.extract, hv1]
      · cases h
    · cases h
  case call c =>
    obtain ⟨callee, args, argTypes⟩ := c
    cases callee <;> simp only at h <;> (try (cases h; done))
    rename_i b
    have hres : ∀ t, resolve a.eval ⟨.builtin b, args, argTypes⟩ t = pure { target := .builtin b argTypes t (args.map fun | .const _ => true | _ => false), args := args.map a.eval } := fun t => rfl
    rw [hres]
    simp only [pure_bind, invoke]
    split at h
    · rename_i l hl
      have hv := opds_sound R hE hl
      have := minA_sound (b := false) (P := P) R type argTypes hv h
      show GoodO P base μ s w (builtin .min argTypes type _ (args.map a.eval)) _ _
      rw [show args.map a.eval = (args.toList.map a.eval).toArray by apply Array.ext'; simp]
      exact this.op
    · rename_i l hl
      have hv := opds_sound R hE hl
      have := minA_sound (b := true) (P := P) R type argTypes hv h
      show GoodO P base μ s w (builtin .max argTypes type _ (args.map a.eval)) _ _
      rw [show args.map a.eval = (args.toList.map a.eval).toArray by apply Array.ext'; simp]
      exact this.op
    · cases h
  all_goals (first | cases h | (cases hc))

theorem read_sound (hT : tysB P T = true) (R : Rel base μ s w.heap) {e : Env} {a : Act} (hE : VEnv μ e a.tmps) {o : Oper} {x : TV} (h : readA T o.op e s = some x) : GoodO P base μ s w (execOp a.eval o) x s := by
  obtain ⟨dst, op, type, pos, after, guard⟩ := o
  unfold readA at h
  simp only at h
  split at h
  · rename_i t y
    split at h
    · rename_i i b off ht hy
      split at h
      · rename_i cs hcs
        split at h
        · rename_i hn
          exact (good_load hT R ht (opd_sound R hE hy) hcs hn h).op
        · cases h
      · cases h
    · cases h
  · rename_i t m k ok
    split at h
    · rename_i p q hp hq
      exact (good_lookup hT R (opd_sound R hE hp) (opd_sound R hE hq) h).op
    · cases h
  · rename_i b args argTypes
    split at h
    · rename_i x t hx ht
      have hv : ∃ v, args.map a.eval = #[v] ∧ VT μ x v := by
        have := opds_sound R hE hx
        cases hl : args.toList.map a.eval with
        | nil => rw [hl] at this; cases this
        | cons v r =>
          rw [hl] at this
          cases this with
          | cons h1 h2 => cases h2; exact ⟨v, by apply Array.ext'; simpa using hl, h1⟩
      obtain ⟨v, hv, hxv⟩ := hv
      show GoodO P base μ s w (builtin .len argTypes type (args.map fun | .const _ => true | _ => false) (args.map a.eval)) _ _
      rw [hv]
      exact (lenA_sound (ty := type) hT R ht hxv h).op
    · cases h
  · cases h

theorem good_entryOf (R : Rel base μ s w.heap) {b mb n i : Nat} {seen : List Nat} {es : List (AV × AV)} {p : AV × AV} {v : Value} (hb : s.get b = some ⟨true, .miter mb n seen⟩) (hmb : s.get mb = some ⟨true, .map es⟩) (hen : es.length = n) (hi : seen.getLast? = some i) (hp : es[i]? = some p) (hv : VT μ (.v (.ptr b 0)) v) :
    Good P base μ s w (Instr.entry v) (.tup [(false, [p.1]), (false, [p.2])]) s := by
  obtain ⟨m, hm, rfl⟩ := hv
  obtain ⟨hsh, m', q1, q2⟩ := R.blk _ _ m hb hm
  obtain ⟨ml, c, r1, r2, r3⟩ := R.blk _ _ m' hmb q1
  obtain ⟨r4, r5⟩ := r3 rfl
  obtain ⟨x, hx, hx2, hx3⟩ := forall₂_get r2 _ _ hp
  have hx' : ml[i]? = some x := by simpa using hx
  have hborn := r5 i x hx'
  have hll := forall₂_length r2
  simp only [Array.length_toList] at hll
  have hseen : seen.toArray = (seen.dropLast.toArray).push x.born := by
    have hne : seen ≠ [] := by rintro rfl; simp at hi
    have hl : seen.getLast hne = i := by rw [List.getLast?_eq_some_getLast hne] at hi; exact Option.some.inj hi
    have := List.dropLast_concat_getLast hne
    rw [hborn, List.push_toArray, ← hl, this]
  have hnd : (ml.toList.map (·.born)).Nodup := by
    have : ml.toList.map (·.born) = List.range ml.size := by
      apply List.ext_getElem?
      intro k
      rw [List.getElem?_map]
      cases hk : ml.toList[k]? with
      | none =>
        have : ml.size ≤ k := by simpa using List.getElem?_eq_none_iff.1 hk
        simp [this]
      | some y =>
        have hk' : ml[k]? = some y := by simpa using hk
        have hlt := (Array.getElem?_eq_some_iff.1 hk').1
        simp [r5 k y hk', hlt]
    rw [this]; exact List.nodup_range
  refine Good.now R (v := .tuple #[x.key, x.val]) ?_ ⟨[x.key, x.val], rfl, .cons ⟨_, rfl, hx2⟩ (.cons ⟨_, rfl, hx3⟩ .nil)⟩
  rw [hseen] at q2
  rw [hsh, Nat.zero_add]
  refine run_entry_at (P := P) w m.blk m'.blk n seen.dropLast.toArray ml c x ?_ r1 (by rw [Array.mem_toList_iff]; exact Array.mem_of_getElem? hx') hnd
  rw [q2]; congr 2; omega

theorem loud_sound (hT : tysB P T = true) (R : Rel base μ s w.heap) {e : Env} {a : Act} (hE : VEnv μ e a.tmps) {o : Oper} {x : TV} {s' : St} (h : loudA T o.op e s = some (x, s')) : GoodO P base μ s w (execOp a.eval o) x s' := by
  obtain ⟨dst, op, type, pos, after, guard⟩ := o
  unfold loudA at h
  simp only at h
  split at h
  · rename_i t y z
    split at h
    · rename_i i b off v ht hy hz
      split at h
      · rename_i cs xs hcs hxs
        split at h
        · rename_i hn
          cases h
          exact (good_store hT R ht (opd_sound R hE hy) (opd_sound R hE hz) hcs hxs hn.1 hn.2).op
        · cases h
      · cases h
    · cases h
  · rename_i t m k y
    split at h
    · rename_i p q r hp hq hr
      cases hu : updateA T t p q r s <;> simp [hu] at h
      obtain ⟨rfl, rfl⟩ := h
      exact (good_update hT R (opd_sound R hE hp) (opd_sound R hE hq) (opd_sound R hE hr) hu).op
    · cases h
  · rename_i t m k y
    split at h
    · rename_i p q r hp hq hr
      cases hu : updateA T t p q r s <;> simp [hu] at h
      obtain ⟨rfl, rfl⟩ := h
      exact (good_update hT R (opd_sound R hE hp) (opd_sound R hE hq) (opd_sound R hE hr) hu).op
    · cases h
  · rename_i t m k
    split at h
    · rename_i p q hp hq
      exact (good_entry hT R (opd_sound R hE hp) (opd_sound R hE hq) h).op
    · cases h
  · rename_i t m st y
    split at h
    · rename_i p q r hp hq hr
      cases hu : storeA p q r s <;> simp [hu] at h
      obtain ⟨rfl, rfl⟩ := h
      exact (good_entryStore t R (opd_sound R hE hp) (opd_sound R hE hq) (opd_sound R hE hr) hu).op
    · cases h
  · rename_i t y
    split at h
    · rename_i l ht hy
      cases h
      have hv : a.eval y = .string ⟨l.toArray⟩ := opd_sound R hE hy
      simp only [execOp]
      rw [hv]
      exact ((alloc_range hT ht).good R).op
    · rename_i kt et b ht hy
      split at h
      · rename_i es hb
        cases h
        simp only [execOp]
        exact (good_rangeMap hT R ht hb (opd_sound R hE hy)).op
      · cases h
    · cases h
  · rename_i y
    simp only [execOp]
    split at h
    · rename_i b hy
      split at h
      · rename_i mb n seen hb
        split at h
        · rename_i es i hmb hi
          split at h
          · rename_i hen
            split at h
            · rename_i p hp
              cases h
              exact (good_entryOf R hb hmb hen hi hp (opd_sound R hE hy)).op
            · cases h
          · cases h
        · cases h
      · cases h
    · cases h
  · rename_i y
    simp only [execOp]
    split at h
    · rename_i blk hy
      split at h
      · rename_i l p hb
        obtain ⟨m, hm, hv⟩ := opd_sound R hE hy
        obtain ⟨hsh, hbl⟩ := R.blk _ _ m hb hm
        have hlt : m.blk < w.heap.size := (Array.getElem?_eq_some_iff.1 hbl).1
        have hsz : (⟨l.toArray⟩ : ByteArray).size = l.length := by simp [ByteArray.size]
        have hv' : a.eval y = .pointer (some ⟨m.blk, 0, none⟩) := by rw [hv, hsh, Nat.zero_add]
        have hget : (getObj m.blk).run P w = .ok (.stringIter ⟨l.toArray⟩ p) w := by simp [getObj, Sem.run, hbl]
        split at h
        · rename_i hp
          cases h
          have hset : ∀ o', (setObj m.blk o').run P w = .ok () { w with heap := w.heap.setIfInBounds m.blk o' } := fun o' => by simp [setObj, Sem.run, hbl]
          obtain ⟨g1, g2⟩ := Rel.put (w' := { w with heap := w.heap.setIfInBounds m.blk (.stringIter ⟨l.toArray⟩ (p + (Utf8.decode ⟨l.toArray⟩ p).2)) }) R hb hm (.siter l (p + (Utf8.decode ⟨l.toArray⟩ p).2)) (by simp) (fun x hx => by simp [Array.getElem?_setIfInBounds_ne (Ne.symm hx)]) ⟨hsh, by simp [hlt]⟩ rfl rfl rfl
          refine ⟨_, _, .inl ⟨.tuple #[.bool true, goInt p, .int .i32 (Utf8.decode ⟨l.toArray⟩ p).1], ?_, [.bool true, goInt p, .int .i32 (Utf8.decode ⟨l.toArray⟩ p).1], rfl, .cons ⟨_, rfl, rfl⟩ (.cons ⟨_, rfl, rfl⟩ (.cons ⟨_, rfl, rfl⟩ .nil))⟩, g1, g2⟩
          rw [hv']
          simp [Instr.next, hget, hsz, hp, hset]
        · rename_i hp
          cases h
          refine ⟨_, w, .inl ⟨.tuple #[.bool false], ?_, [.bool false], rfl, .cons ⟨_, rfl, rfl⟩ .nil⟩, R, .refl _ _ _ _⟩
          rw [hv']
          simp [Instr.next, hget, hsz, hp]
      · cases h
    · cases h
  · rename_i args argTypes
    split at h
    · rename_i x y t t' hx ht ht'
      have arg2 : ∃ v u, args.map a.eval = #[v, u] ∧ VT μ x v ∧ VT μ y u := by
        have := opds_sound R hE hx
        cases hl : args.toList.map a.eval with
        | nil => rw [hl] at this; cases this
        | cons v r =>
          rw [hl] at this
          cases this with
          | cons h1 h2 =>
            cases h2 with
            | cons h3 h4 => cases h4; exact ⟨v, _, by apply Array.ext'; simpa using hl, h1, h3⟩
      obtain ⟨v, u, hv, hxv, hyu⟩ := arg2
      have fin : ∀ (hd : (∃ e', P.underlying t' = some (.slice e')) ∨ P.underlying t' = some .string) {r : TV} {s1 : St} (h : appendA T t x y s = some (r, s1)), GoodO P base μ s w (builtin .append argTypes type (args.map fun | .const _ => true | _ => false) (args.map a.eval)) r s1 := by
        intro hd r s1 h
        rw [hv]
        exact (good_append (ty := type) hT R ht ht' hd hxv hyu h).op
      split at h
      · rename_i hk
        obtain ⟨d, _, hu, hkb⟩ := kd_und hT hk
        cases d <;> simp [kB] at hkb
        exact fin (.inr hu) h
      · rename_i e' hk
        obtain ⟨d, _, hu, hkb⟩ := kd_und hT hk
        cases d <;> simp [kB] at hkb
        exact fin (.inl ⟨_, hu⟩) h
      · cases h
    · cases h
  · cases h

theorem step_sound (hT : tysB P T = true) (R : Rel base μ s w.heap) {e : Env} {a : Act} (hE : VEnv μ e a.tmps) {o : Oper} {x : TV} {s' : St} (h : stepOp T o.op e s = some (x, s')) : GoodO P base μ s w (execOp a.eval o) x s' := by
  unfold stepOp at h
  split at h
  · rename_i hc
    split at h
    · rename_i y hy; cases h; exact pure_sound hT R hE hc hy
    · cases h
  · split at h
    · rename_i y hy; cases h; exact read_sound hT R hE hy
    · cases h
  · split at h
    · rename_i p hp
      cases h
      obtain ⟨m', e1, h1⟩ := allocA_sound hT R hE (f := p.1) (k := p.2) hp
      rw [e1]; exact (h1.good R).op
    · cases h
  · exact loud_sound hT R hE h
end
end Go.Proofs.YtijkkgloennglaaGreatDoor.Ab
