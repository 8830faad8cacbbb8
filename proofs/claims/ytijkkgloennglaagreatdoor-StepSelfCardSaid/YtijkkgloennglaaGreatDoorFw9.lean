/-
  The program logic over the abstract machine: regions, code, calls; and that the model goes so. No condition.
-/
import Derived.Test.YtijkkgloennglaaGreatDoorFw8
set_option linter.all false
namespace Go.Proofs.YtijkkgloennglaaGreatDoor.Ab
open Go Go.RowKit

/-- a region's operation: where its guard's answer lies; or a look whether a load still answers the same -/
structure RI where
  dst : Option Tmp
  op : Op
  g : Option (Tmp × Bool)
  chk : Bool

def guardOk (g : Option (Tmp × Bool)) (e : Env) : Option Bool :=
  match g with
  | none => some true
  | some (t, want) => match e.get t with
    | some (.v (.bool b)) => some (b == want)
    | some (.tup []) => some false
    | _ => none

def Env.put (e : Env) (d : Option Tmp) (x : TV) : Env := match d with | some d => (d, x) :: e | none => e

/-- a call of a Go function -/
def callOf : Op → Option (Operand × Array Operand)
  | .call { callee := .value f, args, .. } => some (f, args)
  | _ => none

structure Enterable (P : Program) (f : FuncId) : Prop where
  h : ∃ fn, P.funcs[f]? = some fn ∧ fn.body.isSome = true ∧ (fn.name == "runtime.NumGoroutine") = false

/-- A CONTRACT: whatever memory the abstract one stands for, the call returns, and what it returns and leaves is as R says -/
def AC (P : Program) (f : FuncId) (args : List TV) (s : St) (R : TV → St → Prop) : Prop :=
  Enterable P f ∧ ∀ (base : Nat) (μ : Mu) (w : World) (vs : List Value), Rel base μ s w.heap → All2 (VT μ) args vs →
    Calls P f vs.toArray w fun e w' => ∃ v x s' μ', e = .returned v ∧ VT μ' x v ∧ R x s' ∧ Rel base μ' s' w'.heap ∧ Grow base μ s w μ' s' w'

theorem AC.mono {P : Program} {f : FuncId} {args : List TV} {s : St} {R R' : TV → St → Prop} (h : AC P f args s R) (hr : ∀ x s', R x s' → R' x s') : AC P f args s R' :=
  ⟨h.1, fun base μ w vs hR hv => (h.2 base μ w vs hR hv).mono fun _ _ ⟨v, x, s', μ', e, h1, h2, h3⟩ => ⟨v, x, s', μ', e, h1, hr _ _ h2, h3⟩⟩

def ptrVals (l : List (Nat × Nat)) : List TV := l.map fun p => .v (.ptr p.1 p.2)

def WL (P : Program) (T : Tys) (Q : Env → St → Prop) : List RI → Env → St → Prop
  | [], e, s => Q e s
  | r :: rest, e, s =>
    match guardOk r.g e with
    | none => False
    | some false => WL P T Q rest (if r.chk then e else e.put r.dst (.tup [])) s
    | some true =>
      if r.chk then ∃ x d, r.dst = some d ∧ stepOp T r.op e s = some (x, s) ∧ e.get d = some x ∧ WL P T Q rest e s
      else match callOf r.op with
        | some (f, args) => ∃ fid ps qs xs, opd s.gl e f = some (.v (.fn fid ps qs)) ∧ opds s.gl e args.toList = some xs ∧ AC P fid (ptrVals ps ++ xs ++ ptrVals qs) s (fun x s' => WL P T Q rest (e.put r.dst x) s')
        | none => ∃ x s', stepOp T r.op e s = some (x, s') ∧ WL P T Q rest (e.put r.dst x) s'

def guardTmp (ops : Array Oper) (g : Option (Nat × Bool)) : Option (Option (Tmp × Bool)) :=
  match g with
  | none => some none
  | some (j, want) => match (ops[j]?).bind (·.dst) with
    | some t => some (some (t, want))
    | none => none
def dstOk (N : Nat) : Option Tmp → Bool
  | some d => decide (d < N)
  | none => true
def riOf (N : Nat) (ops : Array Oper) (i : Nat) : Option RI :=
  match ops[i]? with
  | some o => match guardTmp ops o.guard with
    | some g => if dstOk N o.dst = true then some { dst := o.dst, op := o.op, g := g, chk := false } else none
    | none => none
  | none => none
def riAll (N : Nat) (ops : Array Oper) : List Nat → Option (List RI)
  | [] => some []
  | i :: l => match riOf N ops i, riAll N ops l with
    | some r, some rs => some (r :: rs)
    | _, _ => none

section
variable {P : Program} {T : Tys}

theorem VEnv.put {μ : Mu} {e : Env} {tmps : Array Value} (h : VEnv μ e tmps) {d : Option Tmp} {x : TV} {v : Value} (hv : VT μ x v) (hd : ∀ t, d = some t → t < tmps.size) (a : Act) (ha : a.tmps = tmps) : VEnv μ (e.put d x) (a.put d v).tmps := by
  subst ha
  cases d with
  | none => exact h
  | some d =>
    intro t y hy
    simp only [Env.put, Env.get] at hy
    have hlt := hd d rfl
    split at hy
    · rename_i e'; subst e'; cases hy
      exact ⟨v, by simp [Act.put, hlt], hv⟩
    · rename_i e'
      obtain ⟨u, h1, h2⟩ := h t y hy
      exact ⟨u, by simp [Act.put, Array.getElem?_setIfInBounds_ne e', h1], h2⟩

theorem put_size (a : Act) (d : Option Tmp) (v : Value) : (a.put d v).tmps.size = a.tmps.size := by cases d <;> simp [Act.put]
theorem put_defers (a : Act) (d : Option Tmp) (v : Value) : (a.put d v).defers = a.defers := by cases d <;> rfl

theorem guard_sound {μ : Mu} {e : Env} {a : Act} (hE : VEnv μ e a.tmps) {ops : Array Oper} {o : Oper} {g : Option (Tmp × Bool)} (hg : guardTmp ops o.guard = some g) {b : Bool} (h : guardOk g e = some b) : Region.wanted o (yielded ops a.tmps) = b := by
  unfold guardTmp at hg
  unfold Region.wanted
  split at hg
  · rename_i hn
    cases hg
    simp [guardOk] at h
    rw [hn]; exact h.symm ▸ rfl
  · rename_i j want hj
    rw [hj]
    show (yielded ops a.tmps j == some want) = b
    split at hg
    · rename_i t ht
      cases hg
      simp only [guardOk] at h
      unfold yielded
      rw [ht]
      simp only [Option.bind_some]
      split at h
      · rename_i c hc
        obtain ⟨v, h1, h2⟩ := hE t _ hc
        cases h2
        simp only [Option.some.injEq] at h
        subst h
        simp only [h1]
        cases c <;> cases want <;> rfl
      · rename_i hc
        obtain ⟨v, h1, h2⟩ := hE t _ hc
        obtain ⟨l, rfl, _⟩ := h2
        simp only [Option.some.injEq] at h
        subst h
        simp only [h1]
        rfl
      · cases h
    · cases hg

theorem undef_VT (μ : Mu) : VT μ (.tup []) undef := ⟨[], rfl, .nil⟩

theorem ptrVals_sound {μ : Mu} {ps : List (Nat × Nat)} {vs : List Value} (h : All2 (VP μ) ps vs) : All2 (VT μ) (ptrVals ps) vs := by
  induction h with
  | nil => exact .nil
  | cons x _ ih => exact .cons x ih

/-- a call, as the model makes it -/
theorem call_run {μ : Mu} {s : St} {w : World} {base : Nat} (R : Rel base μ s w.heap) {e : Env} {a : Act} (hE : VEnv μ e a.tmps) {o : Oper} {f : Operand} {args : Array Operand} (ho : callOf o.op = some (f, args)) {fid : FuncId} {ps qs : List (Nat × Nat)} {xs : List TV}
    (hf : opd s.gl e f = some (.v (.fn fid ps qs))) (hx : opds s.gl e args.toList = some xs) (hen : Enterable P fid) :
    ∃ vs : List Value, All2 (VT μ) (ptrVals ps ++ xs ++ ptrVals qs) vs ∧ (execOp a.eval o).run P w = .ok (.enter fid vs.toArray) w := by
  obtain ⟨ps', qs', hfv, h1, h2⟩ := opd_sound R hE hf
  have h3 := opds_sound R hE hx
  refine ⟨ps' ++ args.toList.map a.eval ++ qs', forall₂_append (forall₂_append (ptrVals_sound h1) h3) (ptrVals_sound h2), ?_⟩
  obtain ⟨dst, op, type, pos, after, guard⟩ := o
  cases op <;> simp only [callOf] at ho <;> (try cases ho; done)
  rename_i c
  obtain ⟨callee, cargs, at_⟩ := c
  cases callee <;> simp only at ho <;> (try cases ho; done)
  simp only [Option.some.injEq, Prod.mk.injEq] at ho
  obtain ⟨rfl, rfl⟩ := ho
  obtain ⟨fn, g1, g2, g3⟩ := hen.h
  have g4 : fn.body.isNone = false := by cases hb : fn.body <;> simp_all
  simp only [execOp, resolve, hfv, Deferred.ofValue, pure_bind, invoke, callFunc, Sem.run_bind, run_program, Result.andThen_ok, g1, g3, g4, Bool.false_eq_true, if_false, Sem.run_pure]
  congr 2
  apply Array.ext'
  simp

/-- what is left of an abstract run, of a model's state -/
def PB (base : Nat) (μ₀ : Mu) (s₀ : St) (w₀ : World) (N : Nat) (q : Env → St → Prop) (a : Act) (w : World) : Prop :=
  a.defers = [] ∧ a.tmps.size = N ∧ ∃ e s μ, q e s ∧ VEnv μ e a.tmps ∧ Rel base μ s w.heap ∧ Grow base μ₀ s₀ w₀ μ s w

theorem riOf_spec {N : Nat} {ops : Array Oper} {i : Nat} {r : RI} (h : riOf N ops i = some r) : ∃ o, ops[i]? = some o ∧ guardTmp ops o.guard = some r.g ∧ o.dst = r.dst ∧ o.op = r.op ∧ r.chk = false ∧ ∀ t, r.dst = some t → t < N := by
  unfold riOf at h
  split at h
  · rename_i o ho
    split at h
    · rename_i g hg
      split at h
      · rename_i hd
        cases h
        refine ⟨o, ho, hg, rfl, rfl, rfl, fun t ht => ?_⟩
        simp only at ht
        rw [ht] at hd
        simpa [dstOk] using hd
      · cases h
    · cases h
  · cases h

theorem wl_sound (hT : tysB P T = true) {N : Nat} {ops : Array Oper} {Q : Env → St → Prop} {Q' : Exit → Act → World → Prop} {base : Nat} {μ₀ : Mu} {s₀ : St} {w₀ : World}
    (hQ : ∀ a w, PB base μ₀ s₀ w₀ N Q a w → Q' .normal a w) : ∀ (l : List Nat) (rs : List RI), riAll N ops l = some rs → ∀ (e : Env) (s : St) (a : Act) (w : World), WL P T Q rs e s →
      PB base μ₀ s₀ w₀ N (fun e' s' => e' = e ∧ s' = s) a w → wpOps P ops Q' l a w
  | [], rs, hr, e, s, a, w, h, hp => by
    simp [riAll] at hr; subst hr
    obtain ⟨h1, h2, e', s', μ, ⟨rfl, rfl⟩, h4⟩ := hp
    exact hQ a w ⟨h1, h2, _, _, μ, h, h4⟩
  | i :: l, rs, hr, e, s, a, w, h, hp => by
    unfold riAll at hr
    split at hr
    · rename_i r rs' h1 h2
      cases hr
      obtain ⟨o, ho, hg, hd, hop, hck, hN⟩ := riOf_spec h1
      obtain ⟨p1, p2, e', s', μ, ⟨rfl, rfl⟩, p3, p4, p5⟩ := hp
      have hlt : ∀ t, r.dst = some t → t < a.tmps.size := fun t ht => by rw [p2]; exact hN t ht
      rw [wpOps_cons]
      unfold wpOp
      simp only [ho]
      simp only [WL] at h
      have next : ∀ (v : Value) (x : TV) (s1 : St) (μ1 : Mu) (w1 : World), VT μ1 x v → Rel base μ1 s1 w1.heap → Grow base μ s' w μ1 s1 w1 → WL P T Q rs' (e'.put r.dst x) s1 → wpOps P ops Q' l (a.put o.dst v) w1 := by
        intro v x s1 μ1 w1 hv hR hG hW
        refine wl_sound hT hQ l rs' h2 _ s1 _ w1 hW ⟨by rw [put_defers]; exact p1, by rw [put_size]; exact p2, _, _, μ1, ⟨rfl, rfl⟩, ?_, hR, p5.trans hG⟩
        rw [hd]
        exact VEnv.put (VEnv.mono hG.mu p3) hv hlt a rfl
      cases hgo : guardOk r.g e' with
      | none => rw [hgo] at h; exact h.elim
      | some b =>
        rw [hgo] at h
        rw [guard_sound p3 hg hgo]
        cases b with
        | false =>
          simp only [hck] at h
          exact next undef (.tup []) s' μ w (undef_VT μ) p4 (.refl _ _ _ _) h
        | true =>
          simp only [hck, Bool.false_eq_true, if_false] at h
          simp only [if_true]
          left
          unfold Oper.wp
          split at h
          · rename_i f args hc
            obtain ⟨fid, ps, qs, xs, c1, c2, c3⟩ := h
            obtain ⟨vs, v1, v2⟩ := call_run p4 p3 (o := o) (by rw [hop]; exact hc) c1 c2 c3.1
            rw [v2]
            simp only [Oper.upon]
            refine (c3.2 base μ w vs p4 v1).mono ?_
            rintro en w' ⟨v, x, s1, μ1, rfl, x1, x2, x3, x4⟩
            exact next v x s1 μ1 w' x1 x3 x4 x2
          · obtain ⟨x, s1, c1, c2⟩ := h
            obtain ⟨μ1, w1, hrun, hR, hG⟩ := step_sound hT p4 p3 (o := o) (by rw [hop]; exact c1)
            rcases hrun with ⟨v, g1, g2⟩ | ⟨g1, rfl⟩
            · rw [g1]; exact next v x s1 μ1 w1 g2 hR hG c2
            · rw [g1]; exact next undef (.tup []) s1 μ1 w1 (undef_VT _) hR hG c2
    · cases hr
end
end Go.Proofs.YtijkkgloennglaaGreatDoor.Ab
