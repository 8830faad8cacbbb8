/-
  Compiled code: the logic over it, and a machine that runs it where all is known. No condition.
-/
import Derived.Test.YtijkkgloennglaaGreatDoorFw13
set_option linter.all false
namespace Go.Proofs.YtijkkgloennglaaGreatDoor.Ab
open Go Go.RowKit

inductive CC where
  | skip | reg (l : List RI) | regm (l : List RI) | seq (a b : CC) | keep (ks : List Nat) (a : CC) | cond (c : Operand) (a b : CC) | block (id : Nat) (b : CC) | loop (ks : List Nat) (b : CC) | exit (id : Nat) | ret

/-- the places that are needed on -/
def Env.keep (e : Env) : List Nat → Env
  | [] => []
  | k :: ks => match e.get k with | some x => (k, x) :: e.keep ks | none => e.keep ks
theorem Env.keep_sub (e : Env) : ∀ ks, Env.sub (e.keep ks) e
  | [] => Env.sub_nil e
  | k :: ks => by
    unfold Env.keep
    split
    · rename_i x hx; exact Env.sub_cons hx (Env.keep_sub e ks)
    · exact Env.keep_sub e ks

def isMany : Op → Bool
  | .next _ false => true
  | _ => false
/-- code, compiled; 'kp': what is needed on, at the head of each loop and behind each statement's first part, in order (nothing: all) -/
def comp (N : Nat) : Code → List (List Nat) → Option (CC × List (List Nat))
  | .skip, kp => some (.skip, kp)
  | .label _, kp => some (.skip, kp)
  | .region _ ops draw, kp => match plan N ops draw with | some l => some (if !draw && l.any (fun r => isMany r.op) then .regm l else .reg l, kp) | none => none
  | .seq a b, kp => match comp N a kp with
    | some (x, kp1) => match comp N b kp1 with
      | some (y, kp2) => some (.seq x y, kp2)
      | none => none
    | none => none
  | .cond c a b, kp => match comp N a kp with
    | some (x, kp1) => match comp N b kp1 with
      | some (y, kp2) => some (.cond c x y, kp2)
      | none => none
    | none => none
  | .block id b, kp => match comp N b kp with | some (x, kp1) => some (.block id x, kp1) | none => none
  | .loop b, kp => match kp with
    | k :: kp => match comp N b kp with | some (x, kp1) => some (.loop k x, kp1) | none => none
    | [] => none
  | .exit id, kp => some (.exit id, kp)
  | .ret, kp => some (.ret, kp)
  | _, _ => none

def WC (P : Program) (T : Tys) : CC → (AX → Env → St → Prop) → Env → St → Prop
  | .skip, Q, e, s => Q .normal e s
  | .reg l, Q, e, s => WL P T (Q .normal) l e s
  | .regm l, Q, e, s => WM P T (Q .normal) l e s
  | .seq a b, Q, e, s => WC P T a (fun x e' s' => match x with | .normal => WC P T b Q e' s' | x => Q x e' s') e s
  | .keep ks a, Q, e, s => WC P T a Q (e.keep ks) s
  | .cond c a b, Q, e, s => match opd s.gl e c with
    | some (.v (.bool true)) => WC P T a Q e s
    | some (.v (.bool false)) => WC P T b Q e s
    | _ => False
  | .block id b, Q, e, s => WC P T b (fun x e' s' => match x with | .exit i => if i = id then Q .normal e' s' else Q (.exit i) e' s' | x => Q x e' s') e s
  | .exit id, Q, e, s => Q (.exit id) e s
  | .ret, Q, e, s => Q .ret e s
  | .loop ks b, Q, e, s => ∃ (I : Nat → Env → St → Prop) (n₀ : Nat), I n₀ (e.keep ks) s ∧ ∀ n e s, I n e s →
      WC P T b (fun x e' s' => match x with | .normal => ∃ n', n' < n ∧ I n' (e'.keep ks) s' | x => Q x e' s') e s

section
variable {P : Program} {T : Tys} {N : Nat}

theorem WL.mono {Q Q' : Env → St → Prop} (hq : ∀ e s, Q e s → Q' e s) : ∀ (l : List RI) (e : Env) (s : St), WL P T Q l e s → WL P T Q' l e s
  | [], e, s, h => hq e s h
  | r :: l, e, s, h => by
    simp only [WL] at h ⊢
    cases hg : guardOk r.g e with
    | none => rw [hg] at h; exact h
    | some b =>
      rw [hg] at h
      cases b with
      | false => exact WL.mono hq l _ _ h
      | true =>
        simp only at h ⊢
        split
        · rename_i hc
          rw [if_pos hc] at h
          obtain ⟨x, d, h1, h2, h3, h4⟩ := h
          exact ⟨x, d, h1, h2, h3, WL.mono hq l _ _ h4⟩
        · rename_i hc
          rw [if_neg hc] at h
          cases hcall : callOf r.op with
          | none =>
            rw [hcall] at h
            obtain ⟨x, s', h1, h2⟩ := h
            exact ⟨x, s', h1, WL.mono hq l _ _ h2⟩
          | some p =>
            rw [hcall] at h
            obtain ⟨fid, ps, qs, xs, h1, h2, h3⟩ := h
            exact ⟨fid, ps, qs, xs, h1, h2, h3.mono fun x s' hx => WL.mono hq l _ _ hx⟩

theorem WM.mono {Q Q' : Env → St → Prop} (hq : ∀ e s, Q e s → Q' e s) : ∀ (l : List RI) (e : Env) (s : St), WM P T Q l e s → WM P T Q' l e s
  | [], e, s, h => hq e s h
  | r :: l, e, s, h => by
    simp only [WM] at h ⊢
    cases hg : guardOk r.g e with
    | none => rw [hg] at h; exact h
    | some b =>
      rw [hg] at h
      cases b with
      | false => exact WM.mono hq l _ _ h
      | true =>
        simp only at h ⊢
        cases hmany : manyA r.op e s with
        | some ol => rw [hmany] at h; exact fun p hp => WM.mono hq l _ _ (h p hp)
        | none =>
          rw [hmany] at h
          cases hcall : callOf r.op with
          | none =>
            rw [hcall] at h
            obtain ⟨x, s', h1, h2⟩ := h
            exact ⟨x, s', h1, WM.mono hq l _ _ h2⟩
          | some p =>
            rw [hcall] at h
            obtain ⟨fid, ps, qs, xs, h1, h2, h3⟩ := h
            exact ⟨fid, ps, qs, xs, h1, h2, h3.mono fun x s' hx => WM.mono hq l _ _ hx⟩

theorem WA.mono : ∀ (c : Code) {Q Q' : AX → Env → St → Prop}, (∀ x e s, Q x e s → Q' x e s) → ∀ (e : Env) (s : St), WA P T N c Q e s → WA P T N c Q' e s := by
  intro c
  induction c with
  | skip => intro Q Q' hq e s h; exact hq _ _ _ h
  | label l => intro Q Q' hq e s h; exact hq _ _ _ h
  | exit id => intro Q Q' hq e s h; exact hq _ _ _ h
  | ret => intro Q Q' hq e s h; exact hq _ _ _ h
  | region id ops draw =>
    intro Q Q' hq e s h
    rcases h with ⟨rs, h1, h2⟩ | ⟨h0, rs, h1, h2⟩
    · exact .inl ⟨rs, h1, WL.mono (hq .normal) _ _ _ h2⟩
    · exact .inr ⟨h0, rs, h1, WM.mono (hq .normal) _ _ _ h2⟩
  | seq x y ihx ihy =>
    intro Q Q' hq e s h
    refine ihx (fun ex e' s' h' => ?_) e s h
    cases ex with
    | normal => obtain ⟨e1, h1, h2⟩ := h'; exact ⟨e1, h1, ihy hq _ _ h2⟩
    | exit id => exact hq _ _ _ h'
    | ret => exact hq _ _ _ h'
  | cond c x y ihx ihy =>
    intro Q Q' hq e s h
    simp only [WA] at h ⊢
    split
    · rename_i hc; rw [hc] at h; exact ihx hq _ _ h
    · rename_i hc; rw [hc] at h; exact ihy hq _ _ h
    · rename_i h1 h2
      split at h
      · rename_i hc; exact h1 hc
      · rename_i hc; exact h2 hc
      · exact h
  | block id b ih =>
    intro Q Q' hq e s h
    refine ih (fun ex e' s' h' => ?_) e s h
    cases ex with
    | normal => exact hq _ _ _ h'
    | exit i =>
      simp only at h' ⊢
      by_cases hi : i = id
      · rw [if_pos hi] at h' ⊢; exact hq _ _ _ h'
      · rw [if_neg hi] at h' ⊢; exact hq _ _ _ h'
    | ret => exact hq _ _ _ h'
  | loop b ih =>
    intro Q Q' hq e s h
    obtain ⟨I, n₀, h1, h2⟩ := h
    refine ⟨I, n₀, h1, fun n e s hI => ih (fun ex e' s' h' => ?_) e s (h2 n e s hI)⟩
    cases ex with
    | normal => exact h'
    | exit i => exact hq _ _ _ h'
    | ret => exact hq _ _ _ h'
  | scope b _ => intro Q Q' hq e s h; exact h
  | goto l => intro Q Q' hq e s h; exact h
  | refuse why => intro Q Q' hq e s h; exact h
  | rangeFunc f ps x y _ _ => intro Q Q' hq e s h; exact h

theorem wc_wa : ∀ (c : Code) (kp kp' : List (List Nat)) (cc : CC), comp N c kp = some (cc, kp') → ∀ (Q : AX → Env → St → Prop) (e : Env) (s : St), WC P T cc Q e s → WA P T N c Q e s := by
  intro c
  induction c with
  | skip => intro kp kp' cc h Q e s hw; cases h; exact hw
  | label l => intro kp kp' cc h Q e s hw; cases h; exact hw
  | exit id => intro kp kp' cc h Q e s hw; cases h; exact hw
  | ret => intro kp kp' cc h Q e s hw; cases h; exact hw
  | region id ops draw =>
    intro kp kp' cc h Q e s hw
    simp only [comp] at h
    split at h
    · rename_i l hl
      cases h
      by_cases hc : (!draw && l.any (fun r => isMany r.op)) = true
      · rw [if_pos hc] at hw
        simp only [Bool.and_eq_true, Bool.not_eq_true'] at hc
        refine .inr ⟨hc.1, l, ?_, hw⟩
        unfold plan at hl; rw [hc.1] at hl; simpa using hl
      · rw [if_neg hc] at hw; exact .inl ⟨l, hl, hw⟩
    · cases h
  | seq x y ihx ihy =>
    intro kp kp' cc h Q e s hw
    simp only [comp] at h
    split at h
    · rename_i a kp1 h1
      split at h
      · rename_i b kp2 h2
        cases h
        refine WA.mono x (fun ex e' s' h' => ?_) e s (ihx _ _ _ h1 _ e s hw)
        cases ex with
        | normal => exact ⟨e', Env.sub_refl _, ihy _ _ _ h2 _ _ _ h'⟩
        | exit id => exact h'
        | ret => exact h'
      · cases h
    · cases h
  | cond c x y ihx ihy =>
    intro kp kp' cc h Q e s hw
    simp only [comp] at h
    split at h
    · rename_i a kp1 h1
      split at h
      · rename_i b kp2 h2
        cases h
        simp only [WC] at hw
        simp only [WA]
        split
        · rename_i hc; rw [hc] at hw; exact ihx _ _ _ h1 _ _ _ hw
        · rename_i hc; rw [hc] at hw; exact ihy _ _ _ h2 _ _ _ hw
        · rename_i g1 g2
          split at hw
          · rename_i hc; exact g1 hc
          · rename_i hc; exact g2 hc
          · exact hw
      · cases h
    · cases h
  | block id b ih =>
    intro kp kp' cc h Q e s hw
    simp only [comp] at h
    split at h
    · rename_i a kp1 h1; cases h; exact ih _ _ _ h1 _ _ _ hw
    · cases h
  | loop b ih =>
    intro kp kp' cc h Q e s hw
    cases kp with
    | nil => cases h
    | cons k kp =>
      simp only [comp] at h
      split at h
      · rename_i a kp1 h1
        cases h
        obtain ⟨I, n₀, h2, h3⟩ := hw
        refine ⟨I, n₀, ⟨_, Env.keep_sub _ _, h2⟩, fun n e s hI => WA.mono b (fun ex e' s' h' => ?_) e s (ih _ _ _ h1 _ _ _ (h3 n e s hI))⟩
        cases ex with
        | normal => obtain ⟨n', h4, h5⟩ := h'; exact ⟨n', h4, _, Env.keep_sub _ _, h5⟩
        | exit i => exact h'
        | ret => exact h'
      · cases h
  | scope b _ => intro kp kp' cc h; cases h
  | goto l => intro kp kp' cc h; cases h
  | refuse why => intro kp kp' cc h; cases h
  | rangeFunc f ps x y _ _ => intro kp kp' cc h; cases h

/-- a function, compiled -/
structure FR where
  nt : Nat
  res : List ResultVar
  code : CC
structure FnIs (P : Program) (f : FuncId) (r : FR) : Prop where
  h : ∃ fn c kp kp', P.funcs[f]? = some fn ∧ fn.body = some c ∧ (fn.name == "runtime.NumGoroutine") = false ∧ fn.ntmps = r.nt ∧ fn.results.toList = r.res ∧ comp fn.ntmps c kp = some (r.code, kp')

/-- how a function's code may end -/
def Ends (T : Tys) (res : List ResultVar) (R : TV → St → Prop) (x : AX) (e : Env) (s : St) : Prop := match x with | .exit _ => False | _ => ∃ r, resA T res e s = some r ∧ R r s

theorem ac_of_wc (hT : tysB P T = true) (hm : P.follows .mixedOrders = true) {f : FuncId} {r : FR} (hf : FnIs P f r) {args : List TV} {s : St} {R : TV → St → Prop} (hlen : args.length ≤ r.nt) (h : WC P T r.code (Ends T r.res R) (argEnv 0 args) s) : AC P f args s R := by
  obtain ⟨fn, c, kp, kp', h1, h2, h3, h4, h5, h6⟩ := hf.h
  refine ac_of_wa hT hm h1 h2 h3 (by omega) ?_
  rw [h5]
  exact wc_wa c kp kp' _ h6 _ _ _ h

/-! The machine that runs compiled code -/
abbrev CallE := FuncId → List TV → St → Option (TV × St)
def runL (T : Tys) (call : CallE) : List RI → Env → St → Option (Env × St)
  | [], e, s => some (e, s)
  | r :: l, e, s =>
    match guardOk r.g e with
    | none => none
    | some false => runL T call l (if r.chk then e else e.put r.dst (.tup [])) s
    | some true =>
      if r.chk then
        match r.dst, readA T r.op e s with
        | some d, some x => if clsOf r.op = .read ∧ e.get d = some x then runL T call l e s else none
        | _, _ => none
      else match callOf r.op with
        | some (f, args) => match opd s.gl e f, opds s.gl e args.toList with
          | some (.v (.fn fid ps qs)), some xs => match call fid (ptrVals ps ++ xs ++ ptrVals qs) s with
            | some (x, s') => runL T call l (e.put r.dst x) s'
            | none => none
          | _, _ => none
        | none => match stepOp T r.op e s with
          | some (x, s') => runL T call l (e.put r.dst x) s'
          | none => none
def iter (f : Env → St → Option (AX × Env × St)) (ks : List Nat) : Nat → Env → St → Option (AX × Env × St)
  | 0, _, _ => none
  | n + 1, e, s => match f e s with
    | some (.normal, e', s') => iter f ks n (e'.keep ks) s'
    | r => r
def runC (T : Tys) (call : CallE) (fuel : Nat) : CC → Env → St → Option (AX × Env × St)
  | .skip, e, s => some (.normal, e, s)
  | .reg l, e, s => match runL T call l e s with | some (e', s') => some (.normal, e', s') | none => none
  | .seq a b, e, s => match runC T call fuel a e s with
    | some (.normal, e', s') => runC T call fuel b e' s'
    | r => r
  | .regm _, _, _ => none
  | .keep ks a, e, s => runC T call fuel a (e.keep ks) s
  | .cond c a b, e, s => match opd s.gl e c with
    | some (.v (.bool true)) => runC T call fuel a e s
    | some (.v (.bool false)) => runC T call fuel b e s
    | _ => none
  | .block id b, e, s => match runC T call fuel b e s with
    | some (.exit i, e', s') => if i = id then some (.normal, e', s') else some (.exit i, e', s')
    | r => r
  | .exit id, e, s => some (.exit id, e, s)
  | .ret, e, s => some (.ret, e, s)
  | .loop ks b, e, s => iter (runC T call fuel b) ks fuel (e.keep ks) s
def runF (T : Tys) (F : FuncId → Option FR) (ov : CallE) (fuel : Nat) : Nat → CallE
  | 0, f, args, s => ov f args s
  | n + 1, f, args, s => match ov f args s with
    | some r => some r
    | none => match F f with
      | some fr => if args.length ≤ fr.nt then (match runC T (runF T F ov fuel n) fuel fr.code (argEnv 0 args) s with
        | some (.exit _, _, _) => none
        | some (_, e, s') => match resA T fr.res e s' with | some x => some (x, s') | none => none
        | none => none) else none
      | none => none

def CallOk (P : Program) (call : CallE) : Prop := ∀ f args s x s', call f args s = some (x, s') → AC P f args s (fun y t => y = x ∧ t = s')

theorem runL_sound {call : CallE} (hc : CallOk P call) {Q : Env → St → Prop} : ∀ (l : List RI) (e : Env) (s : St) (e' : Env) (s' : St), runL T call l e s = some (e', s') → Q e' s' → WL P T Q l e s
  | [], e, s, e', s', h, hq => by cases h; exact hq
  | r :: l, e, s, e', s', h, hq => by
    simp only [runL] at h
    simp only [WL]
    cases hg : guardOk r.g e with
    | none => rw [hg] at h; cases h
    | some b =>
      rw [hg] at h
      cases b with
      | false => exact runL_sound hc l _ _ _ _ h hq
      | true =>
        simp only at h ⊢
        by_cases hck : r.chk = true
        · rw [if_pos hck] at h ⊢
          split at h
          · rename_i d x hd hx
            split at h
            · rename_i hcd
              refine ⟨x, d, hd, ?_, hcd.2, runL_sound hc l _ _ _ _ h hq⟩
              unfold stepOp
              rw [hcd.1]
              simp only [hx]
            · cases h
          · cases h
        · rw [if_neg hck] at h ⊢
          cases hcall : callOf r.op with
          | none =>
            rw [hcall] at h
            simp only at h ⊢
            split at h
            · rename_i x s1 h1; exact ⟨x, s1, h1, runL_sound hc l _ _ _ _ h hq⟩
            · cases h
          | some p =>
            rw [hcall] at h
            simp only at h ⊢
            split at h
            · rename_i fid ps qs xs h1 h2
              split at h
              · rename_i x s1 h3
                refine ⟨fid, ps, qs, xs, h1, h2, (hc _ _ _ _ _ h3).mono ?_⟩
                rintro y t ⟨rfl, rfl⟩
                exact runL_sound hc l _ _ _ _ h hq
              · cases h
            · cases h

theorem runC_sound {call : CallE} (hc : CallOk P call) (fuel : Nat) : ∀ (c : CC) (Q : AX → Env → St → Prop) (e : Env) (s : St) (x : AX) (e' : Env) (s' : St), runC T call fuel c e s = some (x, e', s') → Q x e' s' → WC P T c Q e s := by
  intro c
  induction c with
  | skip => intro Q e s x e' s' h hq; cases h; exact hq
  | exit id => intro Q e s x e' s' h hq; cases h; exact hq
  | ret => intro Q e s x e' s' h hq; cases h; exact hq
  | reg l =>
    intro Q e s x e' s' h hq
    simp only [runC] at h
    split at h
    · rename_i e1 s1 h1; cases h; exact runL_sound hc l _ _ _ _ h1 hq
    · cases h
  | regm l => intro Q e s x e' s' h hq; cases h
  | seq a b iha ihb =>
    intro Q e s x e' s' h hq
    simp only [runC] at h
    split at h
    · rename_i e1 s1 h1; exact iha _ _ _ _ _ _ h1 (ihb _ _ _ _ _ _ h hq)
    · rename_i hne
      refine iha _ _ _ _ _ _ h ?_
      cases x with
      | normal => exact absurd h (hne _ _)
      | exit i => exact hq
      | ret => exact hq
  | keep ks a ih => intro Q e s x e' s' h hq; exact ih _ _ _ _ _ _ h hq
  | cond c a b iha ihb =>
    intro Q e s x e' s' h hq
    simp only [runC] at h
    simp only [WC]
    split at h
    · exact iha _ _ _ _ _ _ h hq
    · exact ihb _ _ _ _ _ _ h hq
    · cases h
  | block id b ih =>
    intro Q e s x e' s' h hq
    simp only [runC] at h
    split at h
    · rename_i i e1 s1 h1
      refine ih _ _ _ _ _ _ h1 ?_
      simp only
      by_cases hi : i = id
      · rw [if_pos hi] at h ⊢; cases h; exact hq
      · rw [if_neg hi] at h ⊢; cases h; exact hq
    · rename_i hne
      refine ih _ _ _ _ _ _ h ?_
      cases x with
      | normal => exact hq
      | exit i => exact absurd h (hne _ _ _)
      | ret => exact hq
  | loop ks b ih =>
    intro Q e s x e' s' h hq
    simp only [runC] at h
    refine ⟨fun n e s => iter (runC T call fuel b) ks n e s = some (x, e', s'), fuel, h, fun n e s hI => ?_⟩
    cases n with
    | zero => cases hI
    | succ n =>
      simp only [iter] at hI
      split at hI
      · rename_i e1 s1 h1
        exact ih _ _ _ _ _ _ h1 ⟨n, by omega, hI⟩
      · rename_i hne
        refine ih _ _ _ _ _ _ hI ?_
        cases x with
        | normal => exact absurd hI (hne _ _)
        | exit i => exact hq
        | ret => exact hq

theorem runF_sound (hT : tysB P T = true) (hm : P.follows .mixedOrders = true) {F : FuncId → Option FR} (hF : ∀ f r, F f = some r → FnIs P f r) {ov : CallE} (ho : CallOk P ov) (fuel : Nat) : ∀ n, CallOk P (runF T F ov fuel n)
  | 0 => ho
  | n + 1 => by
    intro f args s x s' h
    simp only [runF] at h
    split at h
    · rename_i r hr; cases h; exact ho _ _ _ _ _ hr
    · split at h
      · rename_i fr hfr
        split at h
        · rename_i hlen
          refine ac_of_wc hT hm (hF f fr hfr) hlen ?_
          split at h
          · cases h
          · rename_i ex e1 s1 hne h1
            split at h
            · rename_i y hy
              cases h
              refine runC_sound (runF_sound hT hm hF ho fuel n) fuel _ _ _ _ _ _ _ h1 ?_
              cases ex with
              | normal => exact ⟨x, hy, rfl, rfl⟩
              | exit i => exact (hne i rfl).elim
              | ret => exact ⟨x, hy, rfl, rfl⟩
            · cases h
          · cases h
        · cases h
      · cases h
end
end Go.Proofs.YtijkkgloennglaaGreatDoor.Ab
