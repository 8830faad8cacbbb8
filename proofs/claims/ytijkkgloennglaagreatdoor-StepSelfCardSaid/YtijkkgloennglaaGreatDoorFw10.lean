/-
  Regions whose order is open: one order of them, with looks whether what was read still stands, speaks for all. No condition.
-/
import Derived.Test.YtijkkgloennglaaGreatDoorFw9
set_option linter.all false
namespace Go.Proofs.YtijkkgloennglaaGreatDoor.Ab
open Go Go.RowKit

def quietB (o : Op) : Bool := clsOf o != .loud
def opTmps (o : Op) : List Tmp := o.operands.toList.filterMap fun | .tmp t => some t | _ => none

section indep
variable {T : Tys}

theorem opd_congr {gl : Nat} {e e' : Env} {o : Operand} (h : ∀ t, o = .tmp t → e.get t = e'.get t) : opd gl e o = opd gl e' o := by
  cases o with
  | tmp t => exact h t rfl
  | _ => rfl
theorem opds_congr {gl : Nat} {e e' : Env} : ∀ {l : List Operand}, (∀ t, Operand.tmp t ∈ l → e.get t = e'.get t) → opds gl e l = opds gl e' l
  | [], _ => rfl
  | o :: l, h => by
    have h1 : opd gl e o = opd gl e' o := opd_congr fun t ht => h t (by rw [ht]; simp)
    have h2 : opds gl e l = opds gl e' l := opds_congr fun t ht => h t (List.mem_cons_of_mem _ ht)
    simp only [opds, h1, h2]
theorem partsOf_congr {gl : Nat} {e e' : Env} : ∀ {l : List (Nat × Operand)}, (∀ t, Operand.tmp t ∈ l.map (·.2) → e.get t = e'.get t) → partsOf gl e l = partsOf gl e' l
  | [], _ => rfl
  | (i, o) :: l, h => by
    have h1 : opd gl e o = opd gl e' o := opd_congr fun t ht => h t (by rw [ht]; simp)
    have h2 : partsOf gl e l = partsOf gl e' l := partsOf_congr fun t ht => h t (List.mem_cons_of_mem _ ht)
    simp only [partsOf, h1, h2]

theorem mem_opTmps {o : Op} {t : Tmp} (h : Operand.tmp t ∈ o.operands.toList) : t ∈ opTmps o := List.mem_filterMap.2 ⟨.tmp t, h, rfl⟩

theorem allocA_congr {gl : Nat} {o : Op} {e e' : Env} (h : ∀ t ∈ opTmps o, e.get t = e'.get t) : allocA T gl o e = allocA T gl o e' := by
  have h' : ∀ t, Operand.tmp t ∈ o.operands.toList → e.get t = e'.get t := fun t ht => h t (mem_opTmps ht)
  cases o <;> simp only [allocA] <;> simp only [Op.operands] at h'
  case box t x => rw [opd_congr (e := e) (e' := e') fun t ht => h' t (by simp [ht])]
  case buildSlice t n ps => rw [partsOf_congr (e := e) (e' := e') fun t ht => h' t (by simpa using ht)]
  case makeMap t r => cases r <;> rfl
  case makeSlice t a b => rw [opd_congr (e := e) (e' := e') (o := a) fun t ht => h' t (by simp [ht]), opd_congr (e := e) (e' := e') (o := b) fun t ht => h' t (by simp [ht])]

theorem bnd_congr {gl : Nat} {e e' : Env} {o : Option Operand} (h : ∀ t, o = some (.tmp t) → e.get t = e'.get t) : bnd gl e o = bnd gl e' o := by
  cases o with
  | none => rfl
  | some y => simp only [bnd]; rw [opd_congr (e := e) (e' := e') fun t ht => h t (by rw [ht])]

theorem pureA_congr {gl : Nat} {o : Op} {e e' : Env} (h : ∀ t ∈ opTmps o, e.get t = e'.get t) : pureA T gl o e = pureA T gl o e' := by
  have h' : ∀ t, Operand.tmp t ∈ o.operands.toList → e.get t = e'.get t := fun t ht => h t (mem_opTmps ht)
  clear h
  cases o <;> simp only [pureA] <;> simp only [Op.operands] at h'
  case move x => exact opd_congr fun t ht => h' t (by simp [ht])
  case assign x => exact opd_congr fun t ht => h' t (by simp [ht])
  case pick c a b => rw [opd_congr (e := e) (e' := e') (o := c) fun t ht => h' t (by simp [ht]), opd_congr (e := e) (e' := e') (o := a) fun t ht => h' t (by simp [ht]), opd_congr (e := e) (e' := e') (o := b) fun t ht => h' t (by simp [ht])]
  case build t ps => rw [partsOf_congr (e := e) (e' := e') fun t ht => h' t (by simpa using ht)]
  case nilCheck x => rw [opd_congr (e := e) (e' := e') fun t ht => h' t (by simp [ht])]
  case binOp op t a b u => rw [opd_congr (e := e) (e' := e') (o := a) fun t ht => h' t (by simp [ht]), opd_congr (e := e) (e' := e') (o := b) fun t ht => h' t (by simp [ht])]
  case unOp op t x => rw [opd_congr (e := e) (e' := e') fun t ht => h' t (by simp [ht])]
  case convert a b x => rw [opd_congr (e := e) (e' := e') fun t ht => h' t (by simp [ht])]
  case makeFunc fn a b =>
    cases fn <;> (try rfl)
    simp only
    rw [opds_congr (e := e) (e' := e') (l := a.toList) fun t ht => h' t (by simp at ht ⊢; exact .inl ht), opds_congr (e := e) (e' := e') (l := b.toList) fun t ht => h' t (by simp at ht ⊢; exact .inr ht)]
  case slice t x lo hi mx =>
    rw [opd_congr (e := e) (e' := e') (o := x) fun t ht => h' t (by simp [ht]), bnd_congr (e := e) (e' := e') (o := lo) fun t ht => h' t (by simp [ht]), bnd_congr (e := e) (e' := e') (o := hi) fun t ht => h' t (by simp [ht]), bnd_congr (e := e) (e' := e') (o := mx) fun t ht => h' t (by simp [ht])]
  case fieldAddr t x f => rw [opd_congr (e := e) (e' := e') fun t ht => h' t (by simp [ht])]
  case field t x f => rw [opd_congr (e := e) (e' := e') fun t ht => h' t (by simp [ht])]
  case indexAddr t a b => rw [opd_congr (e := e) (e' := e') (o := a) fun t ht => h' t (by simp [ht]), opd_congr (e := e) (e' := e') (o := b) fun t ht => h' t (by simp [ht])]
  case index t a b => rw [opd_congr (e := e) (e' := e') (o := a) fun t ht => h' t (by simp [ht]), opd_congr (e := e) (e' := e') (o := b) fun t ht => h' t (by simp [ht])]
  case extract x i => rw [opd_congr (e := e) (e' := e') fun t ht => h' t (by simp [ht])]
  case call c =>
    obtain ⟨callee, args, ts⟩ := c
    cases callee <;> simp only
    rename_i b
    simp only [Call.operands] at h'
    rw [opds_congr (e := e) (e' := e') fun t ht => h' t (by simpa using ht)]

theorem readA_congr {o : Op} {e e' : Env} {s : St} (h : ∀ t ∈ opTmps o, e.get t = e'.get t) : readA T o e s = readA T o e' s := by
  have h' : ∀ t, Operand.tmp t ∈ o.operands.toList → e.get t = e'.get t := fun t ht => h t (mem_opTmps ht)
  clear h
  cases o <;> simp only [readA] <;> simp only [Op.operands] at h'
  case load t x => rw [opd_congr (e := e) (e' := e') fun t ht => h' t (by simp [ht])]
  case lookup t a b ok => rw [opd_congr (e := e) (e' := e') (o := a) fun t ht => h' t (by simp [ht]), opd_congr (e := e) (e' := e') (o := b) fun t ht => h' t (by simp [ht])]
  case call c =>
    obtain ⟨callee, args, ts⟩ := c
    cases callee <;> simp only
    rename_i b
    simp only [Call.operands] at h'
    rw [opds_congr (e := e) (e' := e') fun t ht => h' t (by simpa using ht)]

theorem loudA_congr {o : Op} {e e' : Env} {s : St} (h : ∀ t ∈ opTmps o, e.get t = e'.get t) : loudA T o e s = loudA T o e' s := by
  have h' : ∀ t, Operand.tmp t ∈ o.operands.toList → e.get t = e'.get t := fun t ht => h t (mem_opTmps ht)
  clear h
  cases o <;> (try rfl) <;> simp only [Op.operands] at h'
  case store t a b => simp only [loudA]; rw [opd_congr (e := e) (e' := e') (o := a) fun t ht => h' t (by simp [ht]), opd_congr (e := e) (e' := e') (o := b) fun t ht => h' t (by simp [ht])]
  case mapUpdate t a b c => simp only [loudA]; rw [opd_congr (e := e) (e' := e') (o := a) fun t ht => h' t (by simp [ht]), opd_congr (e := e) (e' := e') (o := b) fun t ht => h' t (by simp [ht]), opd_congr (e := e) (e' := e') (o := c) fun t ht => h' t (by simp [ht])]
  case insert t a b c => simp only [loudA]; rw [opd_congr (e := e) (e' := e') (o := a) fun t ht => h' t (by simp [ht]), opd_congr (e := e) (e' := e') (o := b) fun t ht => h' t (by simp [ht]), opd_congr (e := e) (e' := e') (o := c) fun t ht => h' t (by simp [ht])]
  case mapEntry t a b => simp only [loudA]; rw [opd_congr (e := e) (e' := e') (o := a) fun t ht => h' t (by simp [ht]), opd_congr (e := e) (e' := e') (o := b) fun t ht => h' t (by simp [ht])]
  case entryStore t a b c => simp only [loudA]; rw [opd_congr (e := e) (e' := e') (o := a) fun t ht => h' t (by simp [ht]), opd_congr (e := e) (e' := e') (o := b) fun t ht => h' t (by simp [ht]), opd_congr (e := e) (e' := e') (o := c) fun t ht => h' t (by simp [ht])]
  case range t x => simp only [loudA]; rw [opd_congr (e := e) (e' := e') (o := x) fun t ht => h' t (by simp [ht])]
  case entry x => simp only [loudA]; rw [opd_congr (e := e) (e' := e') (o := x) fun t ht => h' t (by simp [ht])]
  case next x b => cases b <;> (try rfl); simp only [loudA]; rw [opd_congr (e := e) (e' := e') fun t ht => h' t (by simp [ht])]
  case call c =>
    obtain ⟨callee, args, ts⟩ := c
    cases callee <;> (try rfl)
    rename_i b
    cases b <;> (try rfl)
    simp only [Call.operands] at h'
    simp only [loudA]
    rw [opds_congr (e := e) (e' := e') fun t ht => h' t (by simpa using ht)]

theorem stepOp_congr {o : Op} {e e' : Env} {s : St} (h : ∀ t ∈ opTmps o, e.get t = e'.get t) : stepOp T o e s = stepOp T o e' s := by
  unfold stepOp
  rw [pureA_congr h, readA_congr h, allocA_congr h, loudA_congr h]

/-- what is read is read, too, when a block more is there -/
theorem cells_new {s : St} (hf : s.get s.next = none) {B : Blk} {b : Nat} {cs : List AV} (h : s.cells b = some cs) : (s.new B).cells b = some cs := by
  obtain ⟨own, hg⟩ := St.cells_get h
  have hb : b ≠ s.next := by rintro rfl; rw [hf] at hg; cases hg
  unfold St.cells
  rw [St.get_new, if_neg hb, hg]
theorem mapOf_new {s : St} (hf : s.get s.next = none) {B : Blk} {m : TV} {es : List (AV × AV)} (h : mapOf s m = some es) : mapOf (s.new B) m = some es := by
  unfold mapOf at h ⊢
  split at h
  · exact h
  · rename_i b
    split at h
    · rename_i es' hb
      have hne : b ≠ s.next := by rintro rfl; rw [hf] at hb; cases hb
      try simp only
      rw [St.get_new, if_neg hne, hb]; exact h
    · cases h
  · cases h
theorem readA_new {o : Op} {e : Env} {s : St} {x : TV} (hf : s.get s.next = none) (B : Blk) (h : readA T o e s = some x) : readA T o e (s.new B) = some x := by
  unfold readA at h ⊢
  split at h
  · try simp only at h ⊢
    rw [St.gl_new]
    split at h
    · rename_i i b off ht hy
      split at h
      · rename_i cs hcs
        rw [cells_new hf hcs]; exact h
      · cases h
    · cases h
  · try simp only at h ⊢
    rw [St.gl_new]
    split at h
    · rename_i p q hp hq
      unfold lookupA at h ⊢
      split at h
      · rename_i kt et es key h1 h2
        first | (rw [h1, mapOf_new hf h2]; exact h) | (rw [mapOf_new hf h2]; exact h)
      · cases h
    · cases h
  · try simp only at h ⊢
    rw [St.gl_new]
    split at h
    · rename_i y t h1 h2
      unfold lenA at h ⊢
      split at h
      · exact h
      · exact h
      · exact h
      · exact h
      · exact h
      · rename_i y _ _ k e hk
        cases hm : mapOf s y with
        | none => rw [hm] at h; cases h
        | some es =>
          rw [hm] at h
          have h9 := mapOf_new (B := B) hf hm
          have goal : ∀ z, some z = ((some es).map fun es : List (AV × AV) => TV.v (.int .i64 es.length)) → ((mapOf (s.new B) y).map fun es => TV.v (.int .i64 es.length)) = some z := by
            intro z hz; rw [h9]; exact hz.symm
          have := goal x h.symm
          revert this
          unfold mapOf at hm
          split at hm
          · intro h8; simpa [hk] using h8
          · intro h8; simpa [hk] using h8
          · cases hm
      · cases h
    · cases h
  · cases h
end indep

/-! The order -/
def binding (o : Oper) : List Nat := (o.after.toList.filter (Region.binds .any ·)).map (·.on)
def predsOf (ops : Array Oper) (i : Nat) : List Nat := match ops[i]? with | some o => binding o | none => []
def ancs (ops : Array Oper) : Nat → Nat → List Nat
  | 0, i => predsOf ops i
  | n + 1, i => predsOf ops i ++ (predsOf ops i).flatMap (ancs ops n)
def lookOf (r : RI) : List Tmp := opTmps r.op ++ (match r.g with | some (t, _) => [t] | none => [])
def riD (N : Nat) (ops : Array Oper) (i : Nat) : RI := (riOf N ops i).getD { dst := none, op := .recv 0 (.tmp 0) false, g := none, chk := false }
def dstIn (d : Option Tmp) (l : List Tmp) : Bool := match d with | some t => l.contains t | none => false
/-- does it write, or overwrite what another one still looks at? -/
def loudI (N : Nat) (ops : Array Oper) (i : Nat) : Bool :=
  !quietB (riD N ops i).op || (List.range ops.size).any fun j => dstIn (riD N ops i).dst (lookOf (riD N ops j)) && !(predsOf ops j).contains i
def readyD (ops : Array Oper) (D : List Nat) : List Nat := (List.range ops.size).filter fun i => !D.contains i && (predsOf ops i).all fun p => D.contains p
def ordOk (N : Nat) (ops : Array Oper) : List Nat → List Nat → Bool
  | D, [] => (readyD ops D).isEmpty
  | D, i :: od => (readyD ops D).contains i && (if loudI N ops i then readyD ops D == [i] && D.all (fun j => (ancs ops ops.size i).contains j || !dstIn (riD N ops i).dst (lookOf (riD N ops j))) else true) && ordOk N ops (D ++ [i]) od
def chksOf (N : Nat) (ops : Array Oper) (D : List Nat) (i : Nat) : List RI :=
  (D.filter fun j => clsOf (riD N ops j).op == .read && !(ancs ops ops.size i).contains j).map fun j => { riD N ops j with chk := true }
def planGo (N : Nat) (ops : Array Oper) : List Nat → List Nat → List RI
  | _, [] => []
  | D, i :: od => riD N ops i :: ((if loudI N ops i then chksOf N ops D i else []) ++ planGo N ops (D ++ [i]) od)
def orderGo (N : Nat) (ops : Array Oper) : Nat → List Nat → List Nat
  | 0, _ => []
  | f + 1, D => match (readyD ops D).find? (fun i => !loudI N ops i) with
    | some i => i :: orderGo N ops f (D ++ [i])
    | none => match readyD ops D with
      | i :: _ => i :: orderGo N ops f (D ++ [i])
      | [] => []
/-- all operations there; each answer has a place of its own; an operand's maker stands before, or behind -/
def drawOk (N : Nat) (ops : Array Oper) : Bool :=
  ((List.range ops.size).all fun i => (riOf N ops i).isSome && (predsOf ops i).all (fun p => decide (p < ops.size)) &&
    (List.range ops.size).all fun j => (j == i || (riD N ops i).dst == none || (riD N ops i).dst != (riD N ops j).dst) &&
      (!dstIn (riD N ops j).dst (lookOf (riD N ops i)) || (predsOf ops i).contains j || (ancs ops ops.size j).contains i)) && Region.noSelect ops
def planD (N : Nat) (ops : Array Oper) : Option (List RI) :=
  if drawOk N ops && ordOk N ops [] (orderGo N ops ops.size []) then some (planGo N ops [] (orderGo N ops ops.size [])) else none

theorem ancs_in {ops : Array Oper} {L : Nat → Prop} (hL : ∀ i, L i → ∀ p ∈ predsOf ops i, L p) : ∀ (n i : Nat), (∀ p ∈ predsOf ops i, L p) → ∀ q ∈ ancs ops n i, L q
  | 0, i, h, q, hq => h q hq
  | n + 1, i, h, q, hq => by
    simp only [ancs, List.mem_append, List.mem_flatMap] at hq
    rcases hq with hq | ⟨p, hp, hq⟩
    · exact h q hq
    · exact ancs_in hL n p (hL p (h p hp)) q hq

theorem mem_readyD {ops : Array Oper} {D : List Nat} {i : Nat} : i ∈ readyD ops D ↔ i < ops.size ∧ i ∉ D ∧ ∀ p ∈ predsOf ops i, p ∈ D := by
  unfold readyD
  rw [List.mem_filter, List.mem_range]
  simp [Bool.and_eq_true]

/-- a place of the environment that is not laid yet in the model -/
def Env.wo (e : Env) (b : Tmp → Bool) : Env := e.filter fun p => !b p.1
theorem Env.get_wo (b : Tmp → Bool) : ∀ (e : Env) (t : Tmp), (e.wo b).get t = if b t = true then none else e.get t
  | [], t => by simp [Env.wo, Env.get]
  | (k, x) :: e, t => by
    have ih := Env.get_wo b e t
    simp only [Env.wo] at ih ⊢
    by_cases hk : b k = true
    · rw [List.filter_cons_of_neg (by simp [hk]), ih]
      by_cases ht : b t = true
      · simp [ht]
      · have hne : k ≠ t := by rintro rfl; exact ht hk
        simp [ht, Env.get, hne]
    · rw [List.filter_cons_of_pos (by simp [hk])]
      simp only [Env.get]
      split
      · rename_i e'; subst e'; simp [hk]
      · exact ih
end Go.Proofs.YtijkkgloennglaaGreatDoor.Ab
