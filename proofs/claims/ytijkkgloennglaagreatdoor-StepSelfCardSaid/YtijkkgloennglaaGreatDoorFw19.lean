/-
  Laws by which the code's logic is worked out on memory that is not all known. No condition.
-/
import Derived.Test.YtijkkgloennglaaGreatDoorFw18
set_option linter.all false
namespace Go.Proofs.YtijkkgloennglaaGreatDoor.Ab
open Go Go.RowKit

section
variable {P : Program} {T : Tys}
/-- one operation, worked out -/
theorem WL_cons {Q : Env → St → Prop} {r : RI} {l : List RI} {e : Env} {s : St} : WL P T Q (r :: l) e s =
    match guardOk r.g e with
    | none => False
    | some false => WL P T Q l (if r.chk then e else e.put r.dst (.tup [])) s
    | some true =>
      if r.chk then ∃ x d, r.dst = some d ∧ stepOp T r.op e s = some (x, s) ∧ e.get d = some x ∧ WL P T Q l e s
      else match callOf r.op with
        | some (f, args) => match opd s.gl e f, opds s.gl e args.toList with
          | some (.v (.fn fid ps qs)), some xs => AC P fid (ptrVals ps ++ xs ++ ptrVals qs) s (fun x s' => WL P T Q l (e.put r.dst x) s')
          | _, _ => False
        | none => match stepOp T r.op e s with
          | some p => WL P T Q l (e.put r.dst p.1) p.2
          | none => False := by
  rw [WL]
  cases guardOk r.g e with
  | none => rfl
  | some b =>
    cases b with
    | false => rfl
    | true =>
      simp only
      by_cases hk : r.chk = true
      · rw [if_pos hk, if_pos hk]
      · rw [if_neg hk, if_neg hk]
        cases callOf r.op with
        | some fa =>
          obtain ⟨f, args⟩ := fa
          simp only
          apply propext
          constructor
          · rintro ⟨fid, ps, qs, xs, h1, h2, h3⟩; rw [h1, h2]; exact h3
          · intro h
            split at h
            · rename_i fid ps qs xs h1 h2; exact ⟨fid, ps, qs, xs, h1, h2, h⟩
            · exact h.elim
        | none =>
          simp only
          apply propext
          constructor
          · rintro ⟨x, s', h1, h2⟩; rw [h1]; exact h2
          · intro h
            split at h
            · rename_i p hp; exact ⟨p.1, p.2, hp, h⟩
            · exact h.elim

theorem WL_nil {Q : Env → St → Prop} {e : Env} {s : St} : WL P T Q [] e s = Q e s := rfl

theorem WC_skip {Q : AX → Env → St → Prop} {e : Env} {s : St} : WC P T .skip Q e s = Q .normal e s := rfl
theorem WC_exit {i : Nat} {Q : AX → Env → St → Prop} {e : Env} {s : St} : WC P T (.exit i) Q e s = Q (.exit i) e s := rfl
theorem WC_ret {Q : AX → Env → St → Prop} {e : Env} {s : St} : WC P T .ret Q e s = Q .ret e s := rfl
theorem WC_reg {l : List RI} {Q : AX → Env → St → Prop} {e : Env} {s : St} : WC P T (.reg l) Q e s = WL P T (Q .normal) l e s := rfl
theorem WC_seq {a b : CC} {Q : AX → Env → St → Prop} {e : Env} {s : St} : WC P T (.seq a b) Q e s = WC P T a (fun x e' s' => match x with | .normal => WC P T b Q e' s' | x => Q x e' s') e s := rfl
theorem WC_block {i : Nat} {b : CC} {Q : AX → Env → St → Prop} {e : Env} {s : St} : WC P T (.block i b) Q e s = WC P T b (fun x e' s' => match x with | .exit j => if j = i then Q .normal e' s' else Q (.exit j) e' s' | x => Q x e' s') e s := rfl
theorem WC_cond {c : Operand} {a b : CC} {Q : AX → Env → St → Prop} {e : Env} {s : St} : WC P T (.cond c a b) Q e s = match opd s.gl e c with | some (.v (.bool true)) => WC P T a Q e s | some (.v (.bool false)) => WC P T b Q e s | _ => False := rfl
/-! step by step -/
theorem wc_sr {l : List RI} {b : CC} {Q : AX → Env → St → Prop} {e : Env} {s : St} : WC P T (.seq (.reg l) b) Q e s = WL P T (fun e' s' => WC P T b Q e' s') l e s := rfl
theorem wc_ss {d : CC} {Q : AX → Env → St → Prop} {e : Env} {s : St} : WC P T (.seq .skip d) Q e s = WC P T d Q e s := rfl
theorem wc_sret {d : CC} {Q : AX → Env → St → Prop} {e : Env} {s : St} : WC P T (.seq .ret d) Q e s = Q .ret e s := rfl
theorem wc_sexit {i : Nat} {d : CC} {Q : AX → Env → St → Prop} {e : Env} {s : St} : WC P T (.seq (.exit i) d) Q e s = Q (.exit i) e s := rfl
theorem wc_assoc {a b c : CC} {Q : AX → Env → St → Prop} {e : Env} {s : St} : WC P T (.seq (.seq a b) c) Q e s = WC P T (.seq a (.seq b c)) Q e s := by
  show WC P T a _ e s = WC P T a _ e s
  congr 1
  funext x e' s'
  cases x <;> rfl
theorem wc_sct {c : Operand} {a b d : CC} {Q : AX → Env → St → Prop} {e : Env} {s : St} (h : opd s.gl e c = some (.v (.bool true))) : WC P T (.seq (.cond c a b) d) Q e s = WC P T (.seq a d) Q e s := by
  simp only [WC, h]
theorem wc_scf {c : Operand} {a b d : CC} {Q : AX → Env → St → Prop} {e : Env} {s : St} (h : opd s.gl e c = some (.v (.bool false))) : WC P T (.seq (.cond c a b) d) Q e s = WC P T (.seq b d) Q e s := by
  simp only [WC, h]
theorem wc_ct {c : Operand} {a b : CC} {Q : AX → Env → St → Prop} {e : Env} {s : St} (h : opd s.gl e c = some (.v (.bool true))) : WC P T (.cond c a b) Q e s = WC P T a Q e s := by
  simp only [WC, h]
theorem wc_cf {c : Operand} {a b : CC} {Q : AX → Env → St → Prop} {e : Env} {s : St} (h : opd s.gl e c = some (.v (.bool false))) : WC P T (.cond c a b) Q e s = WC P T b Q e s := by
  simp only [WC, h]
theorem wc_sct' {c : Operand} {a b d : CC} {Q : AX → Env → St → Prop} {e : Env} {s : St} (k : WC P T (.seq a d) Q e s) (h : opd s.gl e c = some (.v (.bool true))) : WC P T (.seq (.cond c a b) d) Q e s := by rwa [wc_sct h]
theorem wc_scf' {c : Operand} {a b d : CC} {Q : AX → Env → St → Prop} {e : Env} {s : St} (k : WC P T (.seq b d) Q e s) (h : opd s.gl e c = some (.v (.bool false))) : WC P T (.seq (.cond c a b) d) Q e s := by rwa [wc_scf h]
theorem wc_ct' {c : Operand} {a b : CC} {Q : AX → Env → St → Prop} {e : Env} {s : St} (k : WC P T a Q e s) (h : opd s.gl e c = some (.v (.bool true))) : WC P T (.cond c a b) Q e s := by rwa [wc_ct h]
theorem wc_cf' {c : Operand} {a b : CC} {Q : AX → Env → St → Prop} {e : Env} {s : St} (k : WC P T b Q e s) (h : opd s.gl e c = some (.v (.bool false))) : WC P T (.cond c a b) Q e s := by rwa [wc_cf h]
/-- how a block goes on -/
def BlkK (P : Program) (T : Tys) (i : Nat) (d : CC) (Q : AX → Env → St → Prop) : AX → Env → St → Prop := fun x e s => match x with | .exit j => if j = i then WC P T d Q e s else Q (.exit j) e s | .normal => WC P T d Q e s | .ret => Q .ret e s
theorem blk_normal {i : Nat} {d : CC} {Q : AX → Env → St → Prop} {e : Env} {s : St} : BlkK P T i d Q .normal e s = WC P T d Q e s := rfl
theorem blk_ret {i : Nat} {d : CC} {Q : AX → Env → St → Prop} {e : Env} {s : St} : BlkK P T i d Q .ret e s = Q .ret e s := rfl
theorem blk_exit {i : Nat} {d : CC} {Q : AX → Env → St → Prop} {e : Env} {s : St} : BlkK P T i d Q (.exit i) e s = WC P T d Q e s := if_pos rfl
theorem wc_sb {i : Nat} {b d : CC} {Q : AX → Env → St → Prop} {e : Env} {s : St} : WC P T (.seq (.block i b) d) Q e s = WC P T b (BlkK P T i d Q) e s := by
  show WC P T b _ e s = WC P T b _ e s
  congr 1
  funext x e' s'
  cases x with
  | normal => rfl
  | ret => rfl
  | exit j => rfl
/-- a loop, so many rounds of it -/
def LoopN (P : Program) (T : Tys) (ks : List Nat) (b : CC) (Q : AX → Env → St → Prop) : Nat → Env → St → Prop
  | 0, _, _ => False
  | n + 1, e, s => WC P T b (fun x e' s' => match x with | .normal => LoopN P T ks b Q n (e'.keep ks) s' | x => Q x e' s') e s
theorem wc_loopN {ks : List Nat} {b : CC} {Q : AX → Env → St → Prop} (n : Nat) {e : Env} {s : St} (h : LoopN P T ks b Q n (e.keep ks) s) : WC P T (.loop ks b) Q e s := by
  refine ⟨LoopN P T ks b Q, n, h, fun n e s hI => ?_⟩
  cases n with
  | zero => exact hI.elim
  | succ n =>
    refine WC.mono b (fun x e' s' hx => ?_) e s hI
    cases x with
    | normal => exact ⟨n, by omega, hx⟩
    | exit i => exact hx
    | ret => exact hx
/-- a loop by what holds ahead of each round -/
theorem wc_loopI {ks : List Nat} {b : CC} {Q : AX → Env → St → Prop} (I : Nat → Env → St → Prop) (n : Nat) {e : Env} {s : St} (h0 : I n (e.keep ks) s)
    (h : ∀ n e s, I n e s → WC P T b (fun x e' s' => match x with | .normal => ∃ n', n' < n ∧ I n' (e'.keep ks) s' | x => Q x e' s') e s) : WC P T (.loop ks b) Q e s := ⟨I, n, h0, h⟩
/-- a call of which all is known -/
theorem ac_det {f : FuncId} {args : List TV} {s s1 : St} {v : TV} {R : TV → St → Prop} (h : AC P f args s (fun r s' => r = v ∧ s' = s1)) (hR : R v s1) : AC P f args s R :=
  h.mono fun x s' ⟨h1, h2⟩ => by rw [h1, h2]; exact hR

/-- the length of a slice -/
def slen : AV → Option Nat
  | .nils => some 0
  | .emp => some 0
  | .sl _ _ n _ _ => some n
  | _ => none
theorem lenA_sl {s : St} {t e : TypeId} {x : AV} {n : Nat} (ht : T.kd t = some (.slice e)) (h : slen x = some n) : lenA T t (.v x) s = some (.v (.int .i64 n)) := by
  cases x <;> simp [slen] at h <;> subst h <;> simp [lenA, ht]

theorem cells_new_eq {s : St} {B : Blk} {b : Nat} : (s.new B).cells b = if b = s.next then (match B.k with | .cells cs => some cs | _ => none) else s.cells b := by
  unfold St.cells
  rw [St.get_new]
  by_cases h : b = s.next
  · simp only [h, if_true]; cases B; cases ‹BK› <;> rfl
  · simp only [h, if_false]
theorem cells_put_eq {s : St} {B : Blk} {b b' : Nat} : (s.put b' B).cells b = if b = b' then (match B.k with | .cells cs => some cs | _ => none) else s.cells b := by
  unfold St.cells
  rw [St.get_put]
  by_cases h : b = b'
  · simp only [h, if_true]; cases B; cases ‹BK› <;> rfl
  · simp only [h, if_false]
theorem cells_del_eq {s : St} {b b' : Nat} : (s.del b').cells b = if b = b' then none else s.cells b := by
  unfold St.cells
  rw [St.get_del]
  by_cases h : b = b'
  · simp only [h, if_true]
  · simp only [h, if_false]
theorem own_new_eq {s : St} {B : Blk} {b : Nat} : (s.new B).ownCells b = if b = s.next then (match B with | ⟨true, .cells cs⟩ => some cs | _ => none) else s.ownCells b := by
  unfold St.ownCells
  rw [St.get_new]
  by_cases h : b = s.next
  · simp only [h, if_true]; obtain ⟨o, k⟩ := B; cases o <;> cases k <;> rfl
  · simp only [h, if_false]
theorem own_put_eq {s : St} {B : Blk} {b b' : Nat} : (s.put b' B).ownCells b = if b = b' then (match B with | ⟨true, .cells cs⟩ => some cs | _ => none) else s.ownCells b := by
  unfold St.ownCells
  rw [St.get_put]
  by_cases h : b = b'
  · simp only [h, if_true]; obtain ⟨o, k⟩ := B; cases o <;> cases k <;> rfl
  · simp only [h, if_false]
theorem own_del_eq {s : St} {b b' : Nat} : (s.del b').ownCells b = if b = b' then none else s.ownCells b := by
  unfold St.ownCells
  rw [St.get_del]
  by_cases h : b = b'
  · simp only [h, if_true]
  · simp only [h, if_false]
end
end Go.Proofs.YtijkkgloennglaaGreatDoor.Ab
