/-
  The program logic over the abstract machine: code and functions. No condition.
-/
import Derived.Test.YtijkkgloennglaaGreatDoorFw12
import Derived.Deep.LoopGhost
import Derived.Maps.RangeRun
set_option linter.all false
namespace Go.Proofs.YtijkkgloennglaaGreatDoor.Ab
open Go Go.RowKit

inductive AX where
  | normal | exit (id : Nat) | ret

def Env.sub (e1 e : Env) : Prop := ∀ t x, e1.get t = some x → e.get t = some x
theorem Env.sub_refl (e : Env) : Env.sub e e := fun _ _ h => h
theorem Env.sub_nil (e : Env) : Env.sub [] e := fun _ _ h => by simp [Env.get] at h
theorem Env.sub_cons {e1 e : Env} {k : Nat} {x : TV} (h : e.get k = some x) (h1 : Env.sub e1 e) : Env.sub ((k, x) :: e1) e := fun t y hy => by
  simp only [Env.get] at hy
  split at hy
  · rename_i e'; subst e'; cases hy; exact h
  · exact h1 t y hy

def plan (N : Nat) (ops : Array Oper) (draw : Bool) : Option (List RI) := if draw then planD N ops else riAll N ops (List.range ops.size)

/-- a region in whose operations more than one outcome may be -/
def WM (P : Program) (T : Tys) (Q : Env → St → Prop) : List RI → Env → St → Prop
  | [], e, s => Q e s
  | r :: rest, e, s =>
    match guardOk r.g e with
    | none => False
    | some false => WM P T Q rest (e.put r.dst (.tup [])) s
    | some true =>
      match manyA r.op e s with
      | some l => ∀ p ∈ l, WM P T Q rest (e.put r.dst p.1) p.2
      | none => match callOf r.op with
        | some (f, args) => ∃ fid ps qs xs, opd s.gl e f = some (.v (.fn fid ps qs)) ∧ opds s.gl e args.toList = some xs ∧ AC P fid (ptrVals ps ++ xs ++ ptrVals qs) s (fun x s' => WM P T Q rest (e.put r.dst x) s')
        | none => ∃ x s', stepOp T r.op e s = some (x, s') ∧ WM P T Q rest (e.put r.dst x) s'

def WA (P : Program) (T : Tys) (N : Nat) : Code → (AX → Env → St → Prop) → Env → St → Prop
  | .skip, Q, e, s => Q .normal e s
  | .label _, Q, e, s => Q .normal e s
  | .region _ ops draw, Q, e, s => (∃ rs, plan N ops draw = some rs ∧ WL P T (Q .normal) rs e s) ∨ (draw = false ∧ ∃ rs, riAll N ops (List.range ops.size) = some rs ∧ WM P T (Q .normal) rs e s)
  | .seq a b, Q, e, s => WA P T N a (fun x e' s' => match x with | .normal => ∃ e1, Env.sub e1 e' ∧ WA P T N b Q e1 s' | x => Q x e' s') e s
  | .cond c a b, Q, e, s => match opd s.gl e c with
    | some (.v (.bool true)) => WA P T N a Q e s
    | some (.v (.bool false)) => WA P T N b Q e s
    | _ => False
  | .block id b, Q, e, s => WA P T N b (fun x e' s' => match x with | .exit i => if i = id then Q .normal e' s' else Q (.exit i) e' s' | x => Q x e' s') e s
  | .exit id, Q, e, s => Q (.exit id) e s
  | .ret, Q, e, s => Q .ret e s
  | .loop b, Q, e, s => ∃ (I : Nat → Env → St → Prop) (n₀ : Nat), (∃ e1, Env.sub e1 e ∧ I n₀ e1 s) ∧ ∀ n e s, I n e s →
      WA P T N b (fun x e' s' => match x with | .normal => ∃ n', n' < n ∧ ∃ e1, Env.sub e1 e' ∧ I n' e1 s' | x => Q x e' s') e s
  | _, _, _, _ => False

def PX (base : Nat) (μ₀ : Mu) (s₀ : St) (w₀ : World) (N : Nat) (Q : AX → Env → St → Prop) : Exit → Act → World → Prop
  | .normal, a, w => PB base μ₀ s₀ w₀ N (Q .normal) a w
  | .exit id, a, w => PB base μ₀ s₀ w₀ N (Q (.exit id)) a w
  | .ret, a, w => PB base μ₀ s₀ w₀ N (Q .ret) a w
  | _, _, _ => False

section
variable {P : Program} {T : Tys} {N : Nat} {base : Nat} {μ₀ : Mu} {s₀ : St} {w₀ : World}

theorem PB.mono {q q' : Env → St → Prop} {a : Act} {w : World} (h : PB base μ₀ s₀ w₀ N q a w) (hq : ∀ e s, q e s → q' e s) : PB base μ₀ s₀ w₀ N q' a w := by
  obtain ⟨h1, h2, e, s, μ, h3, h4⟩ := h
  exact ⟨h1, h2, e, s, μ, hq _ _ h3, h4⟩
theorem PB.weak {q : Env → St → Prop} {a : Act} {w : World} (h : PB base μ₀ s₀ w₀ N (fun e s => ∃ e1, Env.sub e1 e ∧ q e1 s) a w) : PB base μ₀ s₀ w₀ N q a w := by
  obtain ⟨h1, h2, e, s, μ, ⟨e1, h3, h4⟩, h5, h6⟩ := h
  exact ⟨h1, h2, e1, s, μ, h4, fun t x hx => h5 t x (h3 t x hx), h6⟩
/-- a state that is known to be one of some -/
theorem PB.each {q : Env → St → Prop} {a : Act} {w : World} (h : PB base μ₀ s₀ w₀ N q a w) : ∃ e s, q e s ∧ PB base μ₀ s₀ w₀ N (fun e' s' => e' = e ∧ s' = s) a w := by
  obtain ⟨h1, h2, e, s, μ, h3, h4⟩ := h
  exact ⟨e, s, h3, h1, h2, e, s, μ, ⟨rfl, rfl⟩, h4⟩

theorem leftA_mem {seen : List Nat} : ∀ (es : List (AV × AV)) (i n : Nat) (p : AV × AV), (n, p) ∈ leftA seen i es ↔ i ≤ n ∧ es[n - i]? = some p ∧ n ∉ seen
  | [], i, n, p => by simp [leftA]
  | q :: es, i, n, p => by
    have ih := leftA_mem (seen := seen) es (i + 1) n p
    have key : (n, p) ∈ leftA seen i (q :: es) ↔ (n = i ∧ p = q ∧ i ∉ seen) ∨ (n, p) ∈ leftA seen (i + 1) es := by
      rw [show leftA seen i (q :: es) = if seen.contains i then leftA seen (i + 1) es else (i, q) :: leftA seen (i + 1) es from rfl]
      by_cases hc : i ∈ seen
      · rw [if_pos (by simpa using hc)]
        exact ⟨.inr, fun h => h.elim (fun h => (h.2.2 hc).elim) id⟩
      · rw [if_neg (by simpa using hc)]
        simp only [List.mem_cons, Prod.mk.injEq]
        exact ⟨fun h => h.imp (fun h => ⟨h.1, h.2, hc⟩) id, fun h => h.imp (fun h => ⟨h.1, h.2.1⟩) id⟩
    rw [key, ih]
    constructor
    · rintro (⟨rfl, rfl, h⟩ | ⟨h1, h2, h3⟩)
      · exact ⟨Nat.le_refl _, by simp, h⟩
      · refine ⟨by omega, ?_, h3⟩
        rw [show n - i = (n - (i + 1)) + 1 by omega]; simpa using h2
    · rintro ⟨h1, h2, h3⟩
      by_cases e : n = i
      · subst e; simp at h2; exact .inl ⟨rfl, h2.symm, h3⟩
      · right
        refine ⟨by omega, ?_, h3⟩
        rw [show n - i = (n - (i + 1)) + 1 by omega] at h2; simpa using h2

theorem many_sound {μ : Mu} {s : St} {w : World} {base : Nat} (R : Rel base μ s w.heap) {e : Env} {a : Act} (hE : VEnv μ e a.tmps) {o : Oper} {l : List (TV × St)} (h : manyA o.op e s = some l) : ∃ p ∈ l, GoodO P base μ s w (execOp a.eval o) p.1 p.2 := by
  obtain ⟨dst, op, type, pos, after, guard⟩ := o
  unfold manyA at h
  simp only at h
  split at h
  · rename_i it
    split at h
    · rename_i b hy
      split at h
      · rename_i mb n seen hb
        split at h
        · rename_i es hmb
          split at h
          · rename_i hlen
            obtain ⟨m, hm, hv⟩ := opd_sound R hE hy
            obtain ⟨hsh, m', q1, q2⟩ := R.blk _ _ m hb hm
            obtain ⟨ml, c, r1, r2, r3⟩ := R.blk _ _ m' hmb q1
            obtain ⟨r4, r5⟩ := r3 rfl
            have hll := forall₂_length r2
            simp only [Array.length_toList] at hll
            have hv' : a.eval it = .pointer (some ⟨m.blk, 0, none⟩) := by rw [hv, hsh, Nat.zero_add]
            have hold : ∀ x ∈ ml.toList, x.born < n := by
              intro x hx
              obtain ⟨i, hi⟩ := List.getElem?_of_mem hx
              have hi' : ml[i]? = some x := by simpa using hi
              have := r5 i x hi'
              have := (Array.getElem?_eq_some_iff.1 hi').1
              omega
            have hblt : m.blk < w.heap.size := (Array.getElem?_eq_some_iff.1 q2).1
            rcases run_next_at (P := P) w type m.blk m'.blk n n seen.toArray ml c q2 r1 hold (Nat.le_refl _) with ⟨g1, g2⟩ | ⟨x, hx, w1, hw1, g2⟩
            · have hl : leftA seen 0 es = [] := by
                rw [List.eq_nil_iff_forall_not_mem]
                rintro ⟨i, p⟩ hp
                obtain ⟨_, h2, h3⟩ := (leftA_mem es 0 i p).1 hp
                obtain ⟨y, hy1, _⟩ := forall₂_get r2 _ _ h2
                simp at hy1
                have hb1 := r5 i y hy1
                have hmem : y ∈ leftOf ml seen.toArray := by
                  simp only [leftOf, Array.mem_filter]
                  refine ⟨Array.mem_of_getElem? hy1, ?_⟩
                  rw [hb1]; simpa using h3
                have : leftOf ml seen.toArray = #[] := Array.eq_empty_of_size_eq_zero g1
                rw [this] at hmem; simp at hmem
              rw [hl] at h
              cases h
              refine ⟨(.tup [(false, [.bool false])], s), by simp, μ, w, .inl ⟨.tuple #[.bool false], ?_, [.bool false], rfl, .cons ⟨_, rfl, rfl⟩ .nil⟩, R, .refl _ _ _ _⟩
              simp only [execOp]
              rw [hv']
              simp [g2]
            · have hx1 : x ∈ ml.toList ∧ x.born ∉ seen := by
                simp only [leftOf, Array.mem_toList_iff, Array.mem_filter] at hx
                exact ⟨by simp [hx.1], by simpa using hx.2⟩
              obtain ⟨i, hi⟩ := List.getElem?_of_mem hx1.1
              have hi' : ml[i]? = some x := by simpa using hi
              have hborn := r5 i x hi'
              have hil : i < es.length := by have := (Array.getElem?_eq_some_iff.1 hi').1; omega
              have hei : es[i]? = some es[i] := List.getElem?_eq_getElem hil
              obtain ⟨y, hy1, hy2, hy3⟩ := forall₂_get r2 _ _ hei
              have hyx : y = x := by rw [hi] at hy1; exact (Option.some.inj hy1).symm
              subst hyx
              have hmem : (i, es[i]) ∈ leftA seen 0 es := (leftA_mem es 0 i _).2 ⟨Nat.zero_le _, by exact hei, by rw [← hborn]; exact hx1.2⟩
              have hl : l = (leftA seen 0 es).map fun p => (.tup [(false, [.bool true]), (false, [p.2.1]), (false, [p.2.2])], s.put b ⟨true, .miter mb n (seen ++ [p.1])⟩) := by
                split at h
                · rename_i h0; rw [h0] at hmem; simp at hmem
                · cases h; rfl
              subst hl
              refine ⟨_, List.mem_map.2 ⟨_, hmem, rfl⟩, ?_⟩
              have hcn : c = n := by omega
              have hw1h : w1.heap = w.heap := by rcases hw1 with rfl | rfl <;> rfl
              obtain ⟨p1, p2⟩ := Rel.put (w' := Go.ChangeMaps.setBlock w1 m.blk (.mapIter (some m'.blk) n (seen.toArray.push y.born) c)) R hb hm (.miter mb n (seen ++ [i])) (by simp [Go.ChangeMaps.setBlock, hw1h]) (fun z hz => by simp [Go.ChangeMaps.setBlock, hw1h, Array.getElem?_setIfInBounds_ne (Ne.symm hz)]) ⟨hsh, m', q1, by simp [Go.ChangeMaps.setBlock, hw1h, hblt, hborn, hcn]⟩ (by rcases hw1 with rfl | rfl <;> rfl) (by rcases hw1 with rfl | rfl <;> rfl) (by rcases hw1 with rfl | rfl <;> rfl)
              refine ⟨μ, _, .inl ⟨.tuple #[.bool true, y.key, y.val], ?_, [.bool true, y.key, y.val], rfl, .cons ⟨_, rfl, rfl⟩ (.cons ⟨_, rfl, hy2⟩ (.cons ⟨_, rfl, hy3⟩ .nil))⟩, p1, p2⟩
              simp only [execOp]
              rw [hv']
              simp [g2]
          · cases h
        · cases h
      · cases h
    · cases h
  · cases h

theorem wm_sound (hT : tysB P T = true) {ops : Array Oper} {Q : Env → St → Prop} {Q' : Exit → Act → World → Prop}
    (hQ : ∀ a w, PB base μ₀ s₀ w₀ N Q a w → Q' .normal a w) : ∀ (l : List Nat) (rs : List RI), riAll N ops l = some rs → ∀ (e : Env) (s : St) (a : Act) (w : World), WM P T Q rs e s →
      PB base μ₀ s₀ w₀ N (fun e' s' => e' = e ∧ s' = s) a w → wpOps P ops Q' l a w
  | [], rs, hr, e, s, a, w, h, hp => by
    simp [riAll] at hr; subst hr
    obtain ⟨h1, h2, e', s', μ, ⟨rfl, rfl⟩, h4⟩ := hp
    exact hQ a w ⟨h1, h2, _, _, μ, h, h4⟩
  | i :: l, rs, hr, e, s, a, w, h, hp => by
    unfold riAll at hr
    split at hr
    · rename_i r rs' h1 h2
      cases hr
      obtain ⟨o, ho, hg, hd, hop, hck, hN⟩ := riOf_spec h1
      obtain ⟨p1, p2, e', s', μ, ⟨rfl, rfl⟩, p3, p4, p5⟩ := hp
      have hlt : ∀ t, r.dst = some t → t < a.tmps.size := fun t ht => by rw [p2]; exact hN t ht
      rw [wpOps_cons]
      unfold wpOp
      simp only [ho]
      simp only [WM] at h
      have next : ∀ (v : Value) (x : TV) (s1 : St) (μ1 : Mu) (w1 : World), VT μ1 x v → Rel base μ1 s1 w1.heap → Grow base μ s' w μ1 s1 w1 → WM P T Q rs' (e'.put r.dst x) s1 → wpOps P ops Q' l (a.put o.dst v) w1 := by
        intro v x s1 μ1 w1 hv hR hG hW
        refine wm_sound hT hQ l rs' h2 _ s1 _ w1 hW ⟨by rw [put_defers]; exact p1, by rw [put_size]; exact p2, _, _, μ1, ⟨rfl, rfl⟩, ?_, hR, p5.trans hG⟩
        rw [hd]
        exact VEnv.put (VEnv.mono hG.mu p3) hv hlt a rfl
      cases hgo : guardOk r.g e' with
      | none => rw [hgo] at h; exact h.elim
      | some b =>
        rw [hgo] at h
        rw [guard_sound p3 hg hgo]
        cases b with
        | false =>
          exact next undef (.tup []) s' μ w (undef_VT μ) p4 (.refl _ _ _ _) h
        | true =>
          simp only [if_true] at h ⊢
          left
          unfold Oper.wp
          split at h
          · rename_i ol hol
            obtain ⟨p, hp, μ1, w1, hrun, hR, hG⟩ := many_sound (P := P) p4 p3 (o := o) (by rw [hop]; exact hol)
            have c2 := h p hp
            rcases hrun with ⟨v, g1, g2⟩ | ⟨g1, he⟩
            · rw [g1]; exact next v p.1 p.2 μ1 w1 g2 hR hG c2
            · rw [g1]; rw [he] at c2; exact next undef (.tup []) p.2 μ1 w1 (undef_VT _) hR hG c2
          · split at h
            · rename_i f args hc
              obtain ⟨fid, ps, qs, xs, c1, c2, c3⟩ := h
              obtain ⟨vs, v1, v2⟩ := call_run p4 p3 (o := o) (by rw [hop]; exact hc) c1 c2 c3.1
              rw [v2]
              simp only [Oper.upon]
              refine (c3.2 base μ w vs p4 v1).mono ?_
              rintro en w' ⟨v, x, s1, μ1, rfl, x1, x2, x3, x4⟩
              exact next v x s1 μ1 w' x1 x3 x4 x2
            · obtain ⟨x, s1, c1, c2⟩ := h
              obtain ⟨μ1, w1, hrun, hR, hG⟩ := step_sound hT p4 p3 (o := o) (by rw [hop]; exact c1)
              rcases hrun with ⟨v, g1, g2⟩ | ⟨g1, rfl⟩
              · rw [g1]; exact next v x s1 μ1 w1 g2 hR hG c2
              · rw [g1]; exact next undef (.tup []) s1 μ1 w1 (undef_VT _) hR hG c2
    · cases hr

theorem wa_sound (hT : tysB P T = true) (hm : P.follows .mixedOrders = true) : ∀ (c : Code) (Q : AX → Env → St → Prop) (e : Env) (s : St) (a : Act) (w : World), WA P T N c Q e s → PB base μ₀ s₀ w₀ N (fun e' s' => e' = e ∧ s' = s) a w →
    c.wp P (PX base μ₀ s₀ w₀ N Q) a w := by
  intro c
  induction c with
  | skip => intro Q e s a w h hp; exact wp_skip (hp.mono fun _ _ ⟨h1, h2⟩ => by subst h1; subst h2; exact h)
  | label l => intro Q e s a w h hp; exact wp_label (hp.mono fun _ _ ⟨h1, h2⟩ => by subst h1; subst h2; exact h)
  | exit id => intro Q e s a w h hp; exact wp_exit (hp.mono fun _ _ ⟨h1, h2⟩ => by subst h1; subst h2; exact h)
  | ret => intro Q e s a w h hp; exact wp_ret (hp.mono fun _ _ ⟨h1, h2⟩ => by subst h1; subst h2; exact h)
  | region id ops draw =>
    intro Q e s a w h hp
    rcases h with ⟨rs, h1, h2⟩ | ⟨rfl, rs, h1, h2⟩
    · cases draw with
      | false => exact wp_region (wl_sound hT (fun a w h => h) _ rs h1 e s a w h2 hp)
      | true => exact draw_sound hT hm h1 (fun a w h => h) h2 hp
    · exact wp_region (wm_sound hT (fun a w h => h) _ rs h1 e s a w h2 hp)
  | seq x y ihx ihy =>
    intro Q e s a w h hp
    refine wp_seq (wp_mono (ihx _ e s a w h hp) ?_)
    intro ex a' w' hq
    cases ex with
    | normal =>
      obtain ⟨e', s', h1, h2⟩ := (PB.weak hq).each
      exact ihy Q e' s' a' w' h1 h2
    | exit id => exact hq
    | ret => exact hq
    | goto l => exact hq
    | panic c => exact hq
    | outgrown => exact hq
  | cond c x y ihx ihy =>
    intro Q e s a w h hp
    have hp' := hp
    obtain ⟨p1, p2, e', s', μ, ⟨rfl, rfl⟩, p3, p4, p5⟩ := hp'
    simp only [WA] at h
    split at h
    · rename_i hc
      exact wp_cond_true (opd_sound p4 p3 hc) (ihx Q _ _ a w h hp)
    · rename_i hc
      exact wp_cond_false (opd_sound p4 p3 hc) (ihy Q _ _ a w h hp)
    · exact h.elim
  | block id b ih =>
    intro Q e s a w h hp
    refine wp_block (wp_mono (ih _ e s a w h hp) ?_)
    intro ex a' w' hq
    cases ex with
    | normal => exact hq
    | exit i =>
      simp only [PX, Exit.inBlock] at hq ⊢
      by_cases hi : i = id
      · simp only [hi, if_true] at hq ⊢; exact hq
      · simp only [hi, if_false] at hq ⊢; exact hq
    | ret => exact hq
    | goto l => exact hq
    | panic c => exact hq
    | outgrown => exact hq
  | loop b ih =>
    intro Q e s a w h hp
    obtain ⟨I, n₀, ⟨e1, h1, h2⟩, h3⟩ := h
    refine wp_loop_ghost (fun n a w => PB base μ₀ s₀ w₀ N (I n) a w) n₀ (PB.weak (hp.mono fun _ _ ⟨q1, q2⟩ => by subst q1; subst q2; exact ⟨e1, h1, h2⟩)) ?_
    intro n a w hI
    obtain ⟨e, s, q1, q2⟩ := hI.each
    refine wp_mono (ih _ e s a w (h3 n e s q1) q2) ?_
    intro ex a' w' hq
    cases ex with
    | normal =>
      obtain ⟨r1, r2, e', s', μ, ⟨n', hn, e1, r3, r4⟩, r5, r6⟩ := hq
      exact ⟨n', hn, r1, r2, e1, s', μ, r4, fun t x hx => r5 t x (r3 t x hx), r6⟩
    | exit id => exact hq
    | ret => exact hq
    | goto l => exact hq
    | panic c => exact hq
    | outgrown => exact hq
  | scope b _ => intro Q e s a w h; exact h.elim
  | goto l => intro Q e s a w h; exact h.elim
  | refuse why => intro Q e s a w h; exact h.elim
  | rangeFunc f ps x y _ _ => intro Q e s a w h; exact h.elim

def resOne (T : Tys) (e : Env) (s : St) : ResultVar → Option TV
  | .tmp t => e.get t
  | .cell a t => readA T (.load t (.tmp a)) e s
def resAll (T : Tys) (e : Env) (s : St) : List ResultVar → Option (List TV)
  | [] => some []
  | r :: l => match resOne T e s r, resAll T e s l with
    | some x, some xs => some (x :: xs)
    | _, _ => none
def partAll : List TV → Option (List (Bool × List AV))
  | [] => some []
  | x :: l => match x.part, partAll l with
    | some p, some ps => some (p :: ps)
    | _, _ => none
def resA (T : Tys) (rs : List ResultVar) (e : Env) (s : St) : Option TV :=
  match resAll T e s rs with
  | some [x] => some x
  | some l => (partAll l).map .tup
  | none => none

theorem part_VC {μ : Mu} {x : TV} {v : Value} {p : Bool × List AV} (h : x.part = some p) (hv : VT μ x v) : VC μ p v := by
  cases x with
  | v a => cases h; exact ⟨a, rfl, hv⟩
  | agg cs => cases h; exact hv
  | tup xs => cases h
theorem partAll_sound {μ : Mu} : ∀ {l : List TV} {ps : List (Bool × List AV)} {vs : List Value}, partAll l = some ps → All2 (VT μ) l vs → All2 (VC μ) ps vs
  | [], ps, vs, h, H => by cases H; simp [partAll] at h; subst h; exact .nil
  | x :: l, ps, vs, h, H => by
    cases H with
    | cons h1 h2 =>
      unfold partAll at h
      split at h
      · rename_i p ps' hp hps
        cases h
        exact .cons (part_VC hp h1) (partAll_sound hps h2)
      · cases h

def resRun (tmps : Array Value) : ResultVar → Sem Value
  | .tmp t => pure (tmps.getD t undef)
  | .cell a t => do loadVar t (← asAddr (tmps.getD a undef))

theorem resOne_sound (hT : tysB P T = true) {μ : Mu} {e : Env} {s : St} {w : World} {tmps : Array Value} (R : Rel base μ s w.heap) (hE : VEnv μ e tmps) {r : ResultVar} {x : TV} (h : resOne T e s r = some x) : ∃ v, (resRun tmps r).run P w = .ok v w ∧ VT μ x v := by
  cases r with
  | tmp t =>
    obtain ⟨v, h1, h2⟩ := hE t x h
    exact ⟨v, by simp [resRun, h1], h2⟩
  | cell a t =>
    simp only [resOne, readA] at h
    split at h
    · rename_i i b off ht ha
      obtain ⟨v, h1, h2⟩ := hE a _ ha
      have h2' := h2
      obtain ⟨m, hm, rfl⟩ := h2'
      split at h
      · rename_i cs hcs
        split at h
        · rename_i hn
          obtain ⟨μ', w', v, g1, g2, g3, g4⟩ := good_load (P := P) hT R ht h2 hcs hn h
          obtain ⟨inf, d, z, K⟩ := tysB_spec hT ht
          obtain ⟨l, hl, hv, hrun⟩ := R.loads (P := P) hcs hm hn
          obtain ⟨hcell, hload⟩ := hrun w rfl
          rcases wrap_sound h hv with ⟨ha', hr⟩ | ⟨ha', v', rfl, hr⟩
          · exact ⟨_, by simp [resRun, h1, asAddr, loadVar, run_agg K, ha', run_size K, hload], hr⟩
          · refine ⟨v', ?_, hr⟩
            have := hcell 0 v' (by simp)
            rw [Addr.add_zero'] at this
            simp [resRun, h1, asAddr, loadVar, run_agg K, ha', this]
        · cases h
      · cases h
    · cases h
theorem resAll_sound (hT : tysB P T = true) {μ : Mu} {e : Env} {s : St} {w : World} {tmps : Array Value} (R : Rel base μ s w.heap) (hE : VEnv μ e tmps) : ∀ {rs : List ResultVar} {xs : List TV}, resAll T e s rs = some xs →
    ∃ vs : List Value, (rs.mapM (resRun tmps)).run P w = .ok vs w ∧ All2 (VT μ) xs vs
  | [], xs, h => by simp [resAll] at h; subst h; exact ⟨[], by simp, .nil⟩
  | r :: rs, xs, h => by
    unfold resAll at h
    split at h
    · rename_i x xs' h1 h2
      cases h
      obtain ⟨v, g1, g2⟩ := resOne_sound (P := P) hT R hE h1
      obtain ⟨vs, g3, g4⟩ := resAll_sound hT R hE h2
      exact ⟨v :: vs, by simp [List.mapM_cons, g1, g3], .cons g2 g4⟩
    · cases h
theorem resA_sound (hT : tysB P T = true) {μ : Mu} {e : Env} {s : St} {w : World} {tmps : Array Value} (R : Rel base μ s w.heap) (hE : VEnv μ e tmps) {fn : Func} {x : TV} (h : resA T fn.results.toList e s = some x) : ∃ v, (results fn tmps).run P w = .ok v w ∧ VT μ x v := by
  unfold resA at h
  have key : ∀ {xs : List TV}, resAll T e s fn.results.toList = some xs → ∃ vs : List Value, (fn.results.mapM (resRun tmps)).run P w = .ok vs.toArray w ∧ All2 (VT μ) xs vs := by
    intro xs hx
    obtain ⟨vs, h1, h2⟩ := resAll_sound (P := P) hT R hE hx
    refine ⟨vs, ?_, h2⟩
    rw [Array.mapM_eq_mapM_toList]
    simp [h1]
  have hres : ∀ vs : List Value, (fn.results.mapM (resRun tmps)).run P w = .ok vs.toArray w → (results fn tmps).run P w = .ok (if h : vs.toArray.size = 1 then vs.toArray[0] else .tuple vs.toArray) w := by
    intro vs hv
    have e1 : results fn tmps = (do let vs ← fn.results.mapM (resRun tmps); pure (if h : vs.size = 1 then vs[0] else .tuple vs)) := rfl
    rw [e1]
    simp only [Sem.run_bind, hv, Result.andThen_ok, Sem.run_pure]
  split at h
  · rename_i y hy
    cases h
    obtain ⟨vs, h1, h2⟩ := key hy
    cases h2 with
    | cons h3 h4 => cases h4; exact ⟨_, hres _ h1, h3⟩
  · rename_i l hne hl
    obtain ⟨vs, h1, h2⟩ := key hl
    cases hp : partAll l with
    | none => simp [hp] at h
    | some ps =>
      simp [hp] at h
      subst h
      refine ⟨_, hres _ h1, ?_⟩
      have hlen := forall₂_length h2
      rw [dif_neg]
      · exact ⟨vs, rfl, partAll_sound hp h2⟩
      · intro h1'
        simp at h1'
        match l, hlen with
        | [x], _ => exact hne x rfl
        | [], h => simp at h; omega
        | _ :: _ :: _, h => simp at h; omega
  · cases h

def argEnv : Nat → List TV → Env
  | _, [] => []
  | i, x :: l => (i, x) :: argEnv (i + 1) l
theorem argEnv_get : ∀ (l : List TV) (i t : Nat) (x : TV), (argEnv i l).get t = some x → i ≤ t ∧ l[t - i]? = some x
  | [], i, t, x, h => by simp [argEnv, Env.get] at h
  | y :: l, i, t, x, h => by
    simp only [argEnv, Env.get] at h
    split at h
    · rename_i e; subst e; cases h; simp
    · rename_i e
      obtain ⟨h1, h2⟩ := argEnv_get l (i + 1) t x h
      refine ⟨by omega, ?_⟩
      rw [show t - i = (t - (i + 1)) + 1 by omega]
      simpa using h2

/-- A FUNCTION's CONTRACT, by its code -/
theorem ac_of_wa (hT : tysB P T = true) (hm : P.follows .mixedOrders = true) {f : FuncId} {fn : Func} {c : Code} (hf : P.funcs[f]? = some fn) (hb : fn.body = some c) (hn : (fn.name == "runtime.NumGoroutine") = false) {args : List TV} {s : St} {R : TV → St → Prop} (hlen : args.length ≤ fn.ntmps)
    (h : WA P T fn.ntmps c (fun x e s => match x with | .exit _ => False | _ => ∃ r, resA T fn.results.toList e s = some r ∧ R r s) (argEnv 0 args) s) : AC P f args s R := by
  refine ⟨⟨fn, hf, by rw [hb]; rfl, hn⟩, fun base μ w vs hR hv => ?_⟩
  have hvl := forall₂_length hv
  refine calls_of_wp hf hb (wp_mono (wa_sound (base := base) (μ₀ := μ) (s₀ := s) (w₀ := w) hT hm c _ _ s _ w h ⟨rfl, by simp; omega, _, s, μ, ⟨rfl, rfl⟩, ?_, hR, .refl _ _ _ _⟩) ?_)
  · intro t x hx
    obtain ⟨_, h2⟩ := argEnv_get args 0 t x hx
    obtain ⟨v, h3, h4⟩ := forall₂_get hv _ _ h2
    simp at h3
    refine ⟨v, ?_, h4⟩
    have hlt : t < vs.length := (List.getElem?_eq_some_iff.1 h3).1
    rw [Array.getElem?_append_left (by simpa using hlt)]
    simpa using h3
  · have fin : ∀ a' w', PB base μ s w fn.ntmps (fun e s' => ∃ r, resA T fn.results.toList e s' = some r ∧ R r s') a' w' → a'.defers = [] ∧ ∃ v, (results fn a'.tmps).run P w' = .ok v w' ∧ ∃ v' x s' μ', Ending.returned v = .returned v' ∧ VT μ' x v' ∧ R x s' ∧ Rel base μ' s' w'.heap ∧ Grow base μ s w μ' s' w' := by
      intro a' w' hp
      obtain ⟨h1, h2, e, s', μ', ⟨r, h3, h4⟩, h5, h6, h7⟩ := hp
      obtain ⟨v, g1, g2⟩ := resA_sound (P := P) hT h6 h5 h3
      exact ⟨h1, v, g1, v, r, s', μ', rfl, g2, h4, h6, h7⟩
    intro ex a' w' hq
    cases ex with
    | normal => exact fin a' w' hq
    | ret => exact fin a' w' hq
    | exit id => obtain ⟨_, _, _, _, _, h, _⟩ := hq; exact h.elim
    | goto l => exact hq.elim
    | panic c => exact hq.elim
    | outgrown => exact hq.elim
end
end Go.Proofs.YtijkkgloennglaaGreatDoor.Ab
