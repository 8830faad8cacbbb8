/-
  A machine that looks at all outcomes; what is done in memory of its own is forgotten; contracts in bigger memory. No condition.
-/
import Derived.Test.YtijkkgloennglaaGreatDoorFw14
set_option linter.all false
namespace Go.Proofs.YtijkkgloennglaaGreatDoor.Ab
open Go Go.RowKit

section
variable {P : Program} {T : Tys} {N : Nat}

theorem WC.mono : ∀ (c : CC) {Q Q' : AX → Env → St → Prop}, (∀ x e s, Q x e s → Q' x e s) → ∀ (e : Env) (s : St), WC P T c Q e s → WC P T c Q' e s := by
  intro c
  induction c with
  | skip => intro Q Q' hq e s h; exact hq _ _ _ h
  | exit id => intro Q Q' hq e s h; exact hq _ _ _ h
  | ret => intro Q Q' hq e s h; exact hq _ _ _ h
  | reg l => intro Q Q' hq e s h; exact WL.mono (hq .normal) _ _ _ h
  | regm l => intro Q Q' hq e s h; exact WM.mono (hq .normal) _ _ _ h
  | keep ks a ih => intro Q Q' hq e s h; exact ih hq _ _ h
  | seq x y ihx ihy =>
    intro Q Q' hq e s h
    refine ihx (fun ex e' s' h' => ?_) e s h
    cases ex with
    | normal => exact ihy hq _ _ h'
    | exit id => exact hq _ _ _ h'
    | ret => exact hq _ _ _ h'
  | cond c x y ihx ihy =>
    intro Q Q' hq e s h
    simp only [WC] at h ⊢
    split
    · rename_i hc; rw [hc] at h; exact ihx hq _ _ h
    · rename_i hc; rw [hc] at h; exact ihy hq _ _ h
    · rename_i h1 h2
      split at h
      · rename_i hc; exact h1 hc
      · rename_i hc; exact h2 hc
      · exact h
  | block id b ih =>
    intro Q Q' hq e s h
    refine ih (fun ex e' s' h' => ?_) e s h
    cases ex with
    | normal => exact hq _ _ _ h'
    | exit i =>
      simp only at h' ⊢
      by_cases hi : i = id
      · rw [if_pos hi] at h' ⊢; exact hq _ _ _ h'
      · rw [if_neg hi] at h' ⊢; exact hq _ _ _ h'
    | ret => exact hq _ _ _ h'
  | loop ks b ih =>
    intro Q Q' hq e s h
    obtain ⟨I, n₀, h1, h2⟩ := h
    refine ⟨I, n₀, h1, fun n e s hI => ih (fun ex e' s' h' => ?_) e s (h2 n e s hI)⟩
    cases ex with
    | normal => exact h'
    | exit i => exact hq _ _ _ h'
    | ret => exact hq _ _ _ h'

/-! The machine that looks at all outcomes -/
abbrev KB := AX → Env → St → Bool
def chkM (T : Tys) (call : CallE) (k : Env → St → Bool) : List RI → Env → St → Bool
  | [], e, s => k e s
  | r :: l, e, s =>
    match guardOk r.g e with
    | none => false
    | some false => chkM T call k l (e.put r.dst (.tup [])) s
    | some true =>
      match manyA r.op e s with
      | some ol => ol.all fun p => chkM T call k l (e.put r.dst p.1) p.2
      | none => match callOf r.op with
        | some (f, args) => match opd s.gl e f, opds s.gl e args.toList with
          | some (.v (.fn fid ps qs)), some xs => match call fid (ptrVals ps ++ xs ++ ptrVals qs) s with
            | some (x, s') => chkM T call k l (e.put r.dst x) s'
            | none => false
          | _, _ => false
        | none => match stepOp T r.op e s with
          | some (x, s') => chkM T call k l (e.put r.dst x) s'
          | none => false
def chkIter (f : KB → Env → St → Bool) (ks : List Nat) (k : KB) : Nat → Env → St → Bool
  | 0, _, _ => false
  | n + 1, e, s => f (fun x e' s' => match x with | .normal => chkIter f ks k n (e'.keep ks) s' | x => k x e' s') e s
def chkC (T : Tys) (call : CallE) (fuel : Nat) : CC → KB → Env → St → Bool
  | .skip, k, e, s => k .normal e s
  | .reg l, k, e, s => match runL T call l e s with | some (e', s') => k .normal e' s' | none => false
  | .regm l, k, e, s => chkM T call (k .normal) l e s
  | .seq a b, k, e, s => chkC T call fuel a (fun x e' s' => match x with | .normal => chkC T call fuel b k e' s' | x => k x e' s') e s
  | .keep ks a, k, e, s => chkC T call fuel a k (e.keep ks) s
  | .cond c a b, k, e, s => match opd s.gl e c with
    | some (.v (.bool true)) => chkC T call fuel a k e s
    | some (.v (.bool false)) => chkC T call fuel b k e s
    | _ => false
  | .block id b, k, e, s => chkC T call fuel b (fun x e' s' => match x with | .exit i => if i = id then k .normal e' s' else k (.exit i) e' s' | x => k x e' s') e s
  | .exit id, k, e, s => k (.exit id) e s
  | .ret, k, e, s => k .ret e s
  | .loop ks b, k, e, s => chkIter (fun k e s => chkC T call fuel b k e s) ks k fuel (e.keep ks) s
def chkEnd (T : Tys) (res : List ResultVar) (post : TV → St → Bool) : KB := fun x e s => match x with | .exit _ => false | _ => match resA T res e s with | some r => post r s | none => false
def chkF (T : Tys) (F : FuncId → Option FR) (call : CallE) (fuel : Nat) (post : TV → St → Bool) (f : FuncId) (args : List TV) (s : St) : Bool :=
  match F f with
  | some fr => decide (args.length ≤ fr.nt) && chkC T call fuel fr.code (chkEnd T fr.res post) (argEnv 0 args) s
  | none => false

theorem chkM_sound {call : CallE} (hc : CallOk P call) {k : Env → St → Bool} : ∀ (l : List RI) (e : Env) (s : St), chkM T call k l e s = true → WM P T (fun e s => k e s = true) l e s
  | [], e, s, h => h
  | r :: l, e, s, h => by
    simp only [chkM] at h
    simp only [WM]
    cases hg : guardOk r.g e with
    | none => rw [hg] at h; cases h
    | some b =>
      rw [hg] at h
      cases b with
      | false => exact chkM_sound hc l _ _ h
      | true =>
        simp only at h ⊢
        cases hmany : manyA r.op e s with
        | some ol =>
          rw [hmany] at h
          simp only [List.all_eq_true] at h
          exact fun p hp => chkM_sound hc l _ _ (h p hp)
        | none =>
          rw [hmany] at h
          simp only at h ⊢
          cases hcall : callOf r.op with
          | none =>
            rw [hcall] at h
            simp only at h ⊢
            split at h
            · rename_i x s1 h1; exact ⟨x, s1, h1, chkM_sound hc l _ _ h⟩
            · cases h
          | some p =>
            rw [hcall] at h
            simp only at h ⊢
            split at h
            · rename_i fid ps qs xs h1 h2
              split at h
              · rename_i x s1 h3
                refine ⟨fid, ps, qs, xs, h1, h2, (hc _ _ _ _ _ h3).mono ?_⟩
                rintro y t ⟨rfl, rfl⟩
                exact chkM_sound hc l _ _ h
              · cases h
            · cases h

theorem chkC_sound {call : CallE} (hc : CallOk P call) (fuel : Nat) : ∀ (c : CC) (k : KB) (e : Env) (s : St), chkC T call fuel c k e s = true → WC P T c (fun x e s => k x e s = true) e s := by
  intro c
  induction c with
  | skip => intro k e s h; exact h
  | exit id => intro k e s h; exact h
  | ret => intro k e s h; exact h
  | reg l =>
    intro k e s h
    simp only [chkC] at h
    split at h
    · rename_i e1 s1 h1; exact runL_sound hc l _ _ _ _ h1 h
    · cases h
  | regm l => intro k e s h; exact chkM_sound hc l _ _ h
  | seq a b iha ihb =>
    intro k e s h
    refine WC.mono a (fun x e' s' hx => ?_) e s (iha _ e s h)
    cases x with
    | normal => exact ihb _ _ _ hx
    | exit i => exact hx
    | ret => exact hx
  | keep ks a ih => intro k e s h; exact ih _ _ _ h
  | cond c a b iha ihb =>
    intro k e s h
    simp only [chkC] at h
    simp only [WC]
    split at h
    · rename_i hc'; rw [hc']; exact iha _ _ _ h
    · rename_i hc'; rw [hc']; exact ihb _ _ _ h
    · cases h
  | block id b ih =>
    intro k e s h
    refine WC.mono b (fun x e' s' hx => ?_) e s (ih _ e s h)
    cases x with
    | normal => exact hx
    | exit i =>
      simp only at hx ⊢
      by_cases hi : i = id
      · rw [if_pos hi] at hx ⊢; exact hx
      · rw [if_neg hi] at hx ⊢; exact hx
    | ret => exact hx
  | loop ks b ih =>
    intro k e s h
    simp only [chkC] at h
    refine ⟨fun n e s => chkIter (fun k e s => chkC T call fuel b k e s) ks k n e s = true, fuel, h, fun n e s hI => ?_⟩
    cases n with
    | zero => cases hI
    | succ n =>
      simp only [chkIter] at hI
      refine WC.mono b (fun x e' s' hx => ?_) e s (ih _ e s hI)
      cases x with
      | normal => exact ⟨n, by omega, hx⟩
      | exit i => exact hx
      | ret => exact hx

theorem chkF_sound (hT : tysB P T = true) (hm : P.follows .mixedOrders = true) {F : FuncId → Option FR} (hF : ∀ f r, F f = some r → FnIs P f r) {call : CallE} (hc : CallOk P call) {fuel : Nat} {post : TV → St → Bool} {f : FuncId} {args : List TV} {s : St}
    (h : chkF T F call fuel post f args s = true) : AC P f args s (fun x s' => post x s' = true) := by
  unfold chkF at h
  split at h
  · rename_i fr hfr
    simp only [Bool.and_eq_true, decide_eq_true_eq] at h
    refine ac_of_wc hT hm (hF f fr hfr) h.1 (WC.mono _ (fun x e s hx => ?_) _ _ (chkC_sound hc fuel _ _ _ _ h.2))
    cases x with
    | exit i => cases hx
    | normal => simp only [chkEnd] at hx; split at hx; (rename_i r hr; exact ⟨r, hr, hx⟩); cases hx
    | ret => simp only [chkEnd] at hx; split at hx; (rename_i r hr; exact ⟨r, hr, hx⟩); cases hx
  · cases h

/-! What is done in memory of its own -/
/-- an address-free value -/
def AV.plain : AV → Bool
  | .bool _ | .int _ _ | .str _ | .nilp | .nils | .emp | .nilm | .nilf => true
  | .fn _ [] [] => true
  | _ => false
def TV.plain : TV → Bool
  | .v a => a.plain
  | .agg cs => cs.all AV.plain
  | .tup xs => xs.all fun p => p.2.all AV.plain

theorem AV.plain_VA {a : AV} (h : a.plain = true) {μ μ' : Mu} {v : Value} (hv : VA μ a v) : VA μ' a v := by
  cases a with
  | fn f ps qs =>
    cases ps with
    | cons _ _ => cases h
    | nil => cases qs with
      | cons _ _ => cases h
      | nil => obtain ⟨ps', qs', e, h1, h2⟩ := hv; cases h1; cases h2; exact ⟨[], [], e, .nil, .nil⟩
  | _ => first | exact hv | cases h
theorem VL.plain {μ μ' : Mu} : ∀ {cs : List AV} {l : List Value}, cs.all AV.plain = true → VL μ cs l → VL μ' cs l
  | [], _, _, h => by cases h; exact .nil
  | a :: cs, _, h, hv => by
    cases hv with
    | cons h1 h2 =>
      simp only [List.all_cons, Bool.and_eq_true] at h
      exact .cons (AV.plain_VA h.1 h1) (VL.plain h.2 h2)
theorem TV.plain_VT {x : TV} (h : x.plain = true) {μ μ' : Mu} {v : Value} (hv : VT μ x v) : VT μ' x v := by
  cases x with
  | v a => exact AV.plain_VA h hv
  | agg cs => obtain ⟨l, e, r⟩ := hv; exact ⟨l, e, VL.plain h r⟩
  | tup xs =>
    obtain ⟨l, e, r⟩ := hv
    refine ⟨l, e, ?_⟩
    clear e
    simp only [TV.plain] at h
    induction r with
    | nil => exact .nil
    | cons x _ ih =>
      rename_i p _ _ _ _
      simp only [List.all_cons, Bool.and_eq_true] at h
      refine .cons ?_ (ih h.2)
      obtain ⟨b, cs⟩ := p
      cases b with
      | false => obtain ⟨a, rfl, q⟩ := x; simp at h; exact ⟨a, rfl, AV.plain_VA h.1 q⟩
      | true => obtain ⟨l, e, q⟩ := x; exact ⟨l, e, VL.plain h.1 q⟩

/-- what a value of the older memory says stands as it was -/
theorem VP.back {μ μ' : Mu} (hle : μ.le μ') {p : Nat × Nat} {v v' : Value} (h : VP μ p v) (h' : VP μ' p v') : VP μ p v' := by
  obtain ⟨m, hm, rfl⟩ := h
  obtain ⟨m', hm', rfl⟩ := h'
  rw [hle _ _ hm] at hm'; cases hm'
  exact ⟨m, hm, rfl⟩
theorem VPs.back {μ μ' : Mu} (hle : μ.le μ') {ps : List (Nat × Nat)} {v v' : List Value} (h : All2 (VP μ) ps v) (h' : All2 (VP μ') ps v') : All2 (VP μ) ps v' := by
  induction h generalizing v' with
  | nil => cases h'; exact .nil
  | cons x _ ih => cases h' with | cons h1 h2 => exact .cons (x.back hle h1) (ih h2)
theorem VA.back {μ μ' : Mu} (hle : μ.le μ') {a : AV} {v v' : Value} (h : VA μ a v) (h' : VA μ' a v') : VA μ a v' := by
  cases a with
  | ptr b o => exact VP.back hle h h'
  | sl b off len es cap =>
    obtain ⟨m, o, c, hm, rfl, r⟩ := h
    obtain ⟨m', o', c', hm', rfl, r'⟩ := h'
    rw [hle _ _ hm] at hm'; cases hm'
    exact ⟨m, o', c', hm, rfl, r'⟩
  | map b =>
    obtain ⟨m, hm, rfl⟩ := h
    obtain ⟨m', hm', rfl⟩ := h'
    rw [hle _ _ hm] at hm'; cases hm'
    exact ⟨m, hm, rfl⟩
  | fn f ps qs =>
    obtain ⟨ps', qs', rfl, h1, h2⟩ := h
    obtain ⟨ps1, qs1, rfl, h3, h4⟩ := h'
    exact ⟨ps1, qs1, rfl, VPs.back hle h1 h3, VPs.back hle h2 h4⟩
  | _ => exact h'
theorem BRel.back {μ μ' : Mu} (hle : μ.le μ') {own : Bool} {m : Loc} {h h' : Array Obj} {k : BK} (H : BRel μ own m h k) (H' : BRel μ' own m h' k) : BRel μ own m h' k := by
  cases k with
  | cells cs =>
    obtain ⟨c, t, fr, h1, h2, h3, h4, h5⟩ := H
    obtain ⟨c', t', fr', g1, g2, g3, g4, g5⟩ := H'
    refine ⟨c', t', fr', g1, g2, g3, fun i a hi => ?_, g5⟩
    obtain ⟨v, e, r⟩ := h4 i a hi
    obtain ⟨v', e', r'⟩ := g4 i a hi
    exact ⟨v', e', VA.back hle r r'⟩
  | map es =>
    obtain ⟨l, c, h1, h2, h3⟩ := H
    obtain ⟨l', c', g1, g2, g3⟩ := H'
    refine ⟨l', c', g1, ?_, g3⟩
    apply forall₂_of_get (forall₂_length g2)
    intro i a hi
    obtain ⟨x, e, r⟩ := forall₂_get h2 i a hi
    obtain ⟨x', e', r'⟩ := forall₂_get g2 i a hi
    exact ⟨x', e', VA.back hle r.1 r'.1, VA.back hle r.2 r'.2⟩
  | siter l p => exact H'
  | miter b n seen =>
    obtain ⟨h0, m1, h1, h2⟩ := H
    obtain ⟨g0, m2, g1, g2⟩ := H'
    rw [hle _ _ h1] at g1; cases g1
    exact ⟨g0, m1, h1, g2⟩

/-- all that there was is there -/
def keepsB (s s' : St) : Bool := s'.gl == s.gl && (List.range s.next).all fun b => s'.get b == s.get b
theorem keepsB_spec {s s' : St} (h : keepsB s s' = true) : s'.gl = s.gl ∧ ∀ b, b < s.next → s'.get b = s.get b := by
  simp only [keepsB, Bool.and_eq_true, beq_iff_eq, List.all_eq_true] at h
  exact ⟨h.1, fun b hb => h.2 b (List.mem_range.2 hb)⟩

/-- memory that was made is forgotten -/
theorem Rel.forget {base : Nat} {μ μ' : Mu} {s s' : St} {w w' : World} (R : Rel base μ s w.heap) (R' : Rel base μ' s' w'.heap) (G : Grow base μ s w μ' s' w') (hk : ∀ b, b < s.next → s'.get b = s.get b) : Rel base μ s w'.heap ∧ Grow base μ s w μ s w' := by
  have hsome : ∀ b B, s.get b = some B → s'.get b = some B := fun b B hb => by
    rw [hk b]; exact hb
    exact Decidable.byContradiction fun h => by rw [R.fresh b (by omega)] at hb; cases hb
  refine ⟨⟨fun b m hm => ⟨(R.dom b m hm).1, Nat.lt_of_lt_of_le (R.dom b m hm).2 G.below.size⟩, fun b B m hb hm => BRel.back G.mu (R.blk b B m hb hm) (R'.blk b B m (hsome b B hb) (G.mu _ _ hm)), ?_, R.fresh, Nat.le_trans R.base G.below.size, R.glob⟩, ⟨.refl μ, G.below, Nat.le_refl _, fun b _ h => ⟨h, rfl⟩, rfl⟩⟩
  exact R.own

theorem AC.forget {f : FuncId} {args : List TV} {s : St} {R : TV → St → Prop} {Q : TV → Prop} (h : AC P f args s R) (hR : ∀ x s', R x s' → Q x ∧ x.plain = true ∧ ∀ b, b < s.next → s'.get b = s.get b) : AC P f args s (fun x s' => Q x ∧ s' = s) := by
  refine ⟨h.1, fun base μ w vs hr hv => (h.2 base μ w vs hr hv).mono ?_⟩
  rintro e w' ⟨v, x, s', μ', he, hx, hRx, hr', hg⟩
  obtain ⟨h1, h2, h3⟩ := hR x s' hRx
  obtain ⟨g1, g2⟩ := hr.forget hr' hg h3
  exact ⟨v, x, s, μ, he, TV.plain_VT h2 hx, ⟨h1, rfl⟩, g1, g2⟩

/-! In bigger memory -/
/-- what is done in the globals' memory alone may be done in any that has the same globals -/
theorem AC.lift {f : FuncId} {args : List TV} {g s : St} {Q : TV → Prop} (h : AC P f args g (fun x s' => Q x ∧ s' = g)) (ha : args.all TV.plain = true) (hq : ∀ x, Q x → x.plain = true) (hgl : g.gl = s.gl) (hn : g.gl ≤ g.next)
    (hg : ∀ b B, g.get b = some B → B.own = false ∧ s.get b = some B) (hcl : ∀ b B, g.get b = some B → b < g.gl) (hclosed : ∀ b B, g.get b = some B → ∃ cs, B.k = .cells cs ∧ cs.all AV.plain = true) : AC P f args s (fun x s' => Q x ∧ s' = s) := by
  refine ⟨h.1, fun base μ w vs hr hv => ?_⟩
  let μ0 : Mu := fun b => if b < g.gl then μ b else none
  have hle : ∀ b m, μ0 b = some m → μ b = some m := fun b m hb => by
    simp only [μ0] at hb; split at hb; exact hb; cases hb
  have R0 : Rel w.heap.size μ0 g w.heap := by
    refine ⟨fun b m hm => ?_, fun b B m hb hm => ?_, fun b B m hb ho hm => ?_, ?_, Nat.le_refl _, fun i hi => ?_⟩
    · have hd := hr.dom b m (hle b m hm)
      refine ⟨?_, hd.2⟩
      simp only [μ0] at hm
      split at hm
      · omega
      · cases hm
    · have hB := hg b B hb
      have := hr.blk b B m hB.2 (hle b m hm)
      obtain ⟨cs, hcs, hpl⟩ := hclosed b B hb
      rw [hcs] at this ⊢
      obtain ⟨c, t, fr, h1, h2, h3, h4, h5⟩ := this
      refine ⟨c, t, fr, h1, h2, h3, fun i a hi => ?_, h5⟩
      obtain ⟨v, e, r⟩ := h4 i a hi
      exact ⟨v, e, AV.plain_VA (List.all_eq_true.1 hpl a (List.mem_of_getElem? hi)) r⟩
    · rw [(hg b B hb).1] at ho; cases ho
    · intro b hb
      cases hgb : g.get b with
      | none => rfl
      | some B => have := hcl b B hgb; omega
    · have := hr.glob i (by omega)
      simp only [μ0, if_pos hi]; exact this
  have hv0 : All2 (VT μ0) args vs := by
    clear h
    induction hv with
    | nil => exact .nil
    | cons x _ ih =>
      simp only [List.all_cons, Bool.and_eq_true] at ha
      exact .cons (TV.plain_VT ha.1 x) (ih ha.2)
  refine (h.2 w.heap.size μ0 w vs R0 hv0).mono ?_
  rintro e w' ⟨v, x, s', μ', he, hx, ⟨hQ, rfl⟩, hr', hg'⟩
  have hb := hg'.below
  refine ⟨v, x, s, μ, he, TV.plain_VT (hq x hQ) hx, ⟨hQ, rfl⟩, ?_, ⟨.refl μ, hb.mono hr.base, Nat.le_refl _, fun b _ h => ⟨h, rfl⟩, rfl⟩⟩
  refine ⟨fun b m hm => ⟨(hr.dom b m hm).1, Nat.lt_of_lt_of_le (hr.dom b m hm).2 hb.size⟩, fun b B m hb1 hm => BRel.mono (.refl μ) (hb.block _ (hr.dom b m hm).2) (hr.blk b B m hb1 hm), hr.own, hr.fresh, Nat.le_trans hr.base hb.size, hr.glob⟩
end
end Go.Proofs.YtijkkgloennglaaGreatDoor.Ab
