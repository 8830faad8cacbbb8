/-
  How the abstract machine's values and memory stand to the model's. No condition.
-/
import Derived.Test.YtijkkgloennglaaGreatDoorFw1
set_option linter.all false
namespace Go.Proofs.YtijkkgloennglaaGreatDoor.Ab
open Go Go.RowKit

/-- where a block lies in the model's memory: its block, from which cell on, and how many cells that block has -/
structure Loc where
  blk : Nat
  sh : Nat
  csz : Nat
abbrev Mu := Nat → Option Loc
def Mu.le (μ μ' : Mu) : Prop := ∀ b m, μ b = some m → μ' b = some m

def VP (μ : Mu) (p : Nat × Nat) (v : Value) : Prop := ∃ m, μ p.1 = some m ∧ v = .pointer (some ⟨m.blk, m.sh + p.2, none⟩)

inductive All2 {α β : Type} (R : α → β → Prop) : List α → List β → Prop where
  | nil : All2 R [] []
  | cons {a : α} {b : β} {l : List α} {l' : List β} : R a b → All2 R l l' → All2 R (a :: l) (b :: l')

/-- an abstract value, and the model's -/
def VA (μ : Mu) : AV → Value → Prop
  | .bool b, v => v = .bool b
  | .int k n, v => v = .int k n
  | .str s, v => v = .string ⟨s.toArray⟩
  | .nilp, v => v = .pointer none
  | .ptr b o, v => VP μ (b, o) v
  | .nils, v => v = .slice none 0 0
  | .emp, v => ∃ a, v = .slice (some a) 0 0
  | .sl b off len es cap, v => ∃ m o c, μ b = some m ∧ v = .slice (some ⟨m.blk, o, none⟩) len c ∧ (len ≠ 0 → o = m.sh + off) ∧ len ≤ c ∧ (∀ k, cap = some k → c = k) ∧ (cap = none → o + c * es ≤ m.csz)
  | .nilm, v => v = .map none
  | .map b, v => ∃ m, μ b = some m ∧ v = .map (some m.blk)
  | .fn f ps qs, v => ∃ ps' qs' : List Value, v = .func (.func f) ps'.toArray qs'.toArray ∧ All2 (VP μ) ps ps' ∧ All2 (VP μ) qs qs'
  | .nilf, v => v = .nilFunc

abbrev VL (μ : Mu) := All2 (VA μ)
def VC (μ : Mu) : Bool × List AV → Value → Prop
  | (false, cs), v => ∃ a, cs = [a] ∧ VA μ a v
  | (true, cs), v => ∃ l : List Value, v = .agg l.toArray ∧ VL μ cs l
def VT (μ : Mu) : TV → Value → Prop
  | .v a, v => VA μ a v
  | .agg cs, v => ∃ l : List Value, v = .agg l.toArray ∧ VL μ cs l
  | .tup xs, v => ∃ l : List Value, v = .tuple l.toArray ∧ All2 (VC μ) xs l

theorem forall₂_mono {α β : Type} {R S : α → β → Prop} (h : ∀ a b, R a b → S a b) {l : List α} {l' : List β} (H : All2 R l l') : All2 S l l' := by
  induction H with
  | nil => exact .nil
  | cons x _ ih => exact .cons (h _ _ x) ih

theorem VP.mono {μ μ' : Mu} (h : μ.le μ') {p : Nat × Nat} {v : Value} (H : VP μ p v) : VP μ' p v := by
  obtain ⟨m, hm, hv⟩ := H
  exact ⟨m, h _ _ hm, hv⟩
theorem VA.mono {μ μ' : Mu} (h : μ.le μ') {a : AV} {v : Value} (H : VA μ a v) : VA μ' a v := by
  cases a with
  | ptr b o => exact VP.mono h H
  | sl b off len es cap => obtain ⟨m, o, c, hm, r⟩ := H; exact ⟨m, o, c, h _ _ hm, r⟩
  | map b => obtain ⟨m, hm, r⟩ := H; exact ⟨m, h _ _ hm, r⟩
  | fn f ps qs => obtain ⟨ps', qs', hv, h1, h2⟩ := H; exact ⟨ps', qs', hv, forall₂_mono (fun _ _ => VP.mono h) h1, forall₂_mono (fun _ _ => VP.mono h) h2⟩
  | _ => exact H
theorem VL.mono {μ μ' : Mu} (h : μ.le μ') {a : List AV} {v : List Value} (H : VL μ a v) : VL μ' a v := forall₂_mono (fun _ _ => VA.mono h) H
theorem VC.mono {μ μ' : Mu} (h : μ.le μ') {a : Bool × List AV} {v : Value} (H : VC μ a v) : VC μ' a v := by
  obtain ⟨b, cs⟩ := a
  cases b with
  | false => obtain ⟨a, e, r⟩ := H; exact ⟨a, e, VA.mono h r⟩
  | true => obtain ⟨l, e, r⟩ := H; exact ⟨l, e, VL.mono h r⟩
theorem VT.mono {μ μ' : Mu} (h : μ.le μ') {a : TV} {v : Value} (H : VT μ a v) : VT μ' a v := by
  cases a with
  | v a => exact VA.mono h H
  | agg cs => obtain ⟨l, e, r⟩ := H; exact ⟨l, e, VL.mono h r⟩
  | tup xs => obtain ⟨l, e, r⟩ := H; exact ⟨l, e, forall₂_mono (fun _ _ => VC.mono h) r⟩
theorem Mu.le.refl (μ : Mu) : μ.le μ := fun _ _ h => h
theorem Mu.le.trans {a b c : Mu} (h : a.le b) (k : b.le c) : a.le c := fun x m hx => k x m (h x m hx)

theorem VA.one {μ : Mu} {a : AV} {v : Value} (H : VA μ a v) : v.oneCell' = true := by
  cases a with
  | ptr b o => obtain ⟨m, _, rfl⟩ := H; rfl
  | emp => obtain ⟨a, rfl⟩ := H; rfl
  | sl b off len es cap => obtain ⟨m, o, c, hm, rfl, _⟩ := H; rfl
  | map b => obtain ⟨m, hm, rfl⟩ := H; rfl
  | fn f ps qs => obtain ⟨ps', qs', rfl, _⟩ := H; rfl
  | _ => cases H; rfl
theorem VL.one {μ : Mu} {l : List AV} {r : List Value} (H : VL μ l r) : ∀ v ∈ r, v.oneCell' = true := by
  induction H with
  | nil => intro v hv; simp at hv
  | cons x _ ih =>
    intro v hv
    rcases List.mem_cons.1 hv with rfl | h
    · exact x.one
    · exact ih v h
theorem VA.cells {μ : Mu} {a : AV} {v : Value} (H : VA μ a v) : v.cells = #[v] := by
  have := H.one
  cases v <;> first | rfl | simp [Value.oneCell'] at this

/-- the cells of a value -/
theorem VT.cells {μ : Mu} {x : TV} {v : Value} (H : VT μ x v) {cs : List AV} (h : x.cells = some cs) : VL μ cs v.cells.toList := by
  cases x with
  | v a =>
    simp only [TV.cells, Option.some.injEq] at h; subst h
    rw [VA.cells H]; exact .cons H .nil
  | agg l =>
    simp only [TV.cells, Option.some.injEq] at h; subst h
    obtain ⟨l, rfl, r⟩ := H
    simpa [Value.cells] using r
  | tup xs => simp [TV.cells] at h

theorem forall₂_length {α β : Type} {R : α → β → Prop} {l : List α} {l' : List β} (H : All2 R l l') : l.length = l'.length := by
  induction H with
  | nil => rfl
  | cons _ _ ih => simp [ih]
theorem forall₂_get {α β : Type} {R : α → β → Prop} {l : List α} {l' : List β} (H : All2 R l l') : ∀ (i : Nat) (a : α), l[i]? = some a → ∃ b, l'[i]? = some b ∧ R a b := by
  induction H with
  | nil => intro i a h; simp at h
  | cons x _ ih =>
    intro i a h
    cases i with
    | zero => simp at h; subst h; exact ⟨_, by simp, x⟩
    | succ i => simpa using ih i a (by simpa using h)
theorem forall₂_of_get {α β : Type} {R : α → β → Prop} : ∀ {l : List α} {l' : List β}, l.length = l'.length → (∀ (i : Nat) (a : α), l[i]? = some a → ∃ b, l'[i]? = some b ∧ R a b) → All2 R l l'
  | [], [], _, _ => .nil
  | [], _ :: _, h, _ => by simp at h
  | _ :: _, [], h, _ => by simp at h
  | a :: l, b :: l', hl, h => by
    obtain ⟨b', e, r⟩ := h 0 a (by simp)
    simp at e; subst e
    exact .cons r (forall₂_of_get (by simpa using hl) fun i a hi => by simpa using h (i + 1) a (by simpa using hi))
theorem forall₂_append {α β : Type} {R : α → β → Prop} {l : List α} {l' : List β} (H : All2 R l l') {m : List α} {m' : List β} (K : All2 R m m') : All2 R (l ++ m) (l' ++ m') := by
  induction H with
  | nil => exact K
  | cons x _ ih => exact .cons x ih
theorem forall₂_take {α β : Type} {R : α → β → Prop} {l : List α} {l' : List β} (H : All2 R l l') (n : Nat) : All2 R (l.take n) (l'.take n) := by
  induction H generalizing n with
  | nil => simp; exact .nil
  | cons x _ ih => cases n with
    | zero => simp; exact .nil
    | succ n => simp; exact .cons x (ih n)
theorem forall₂_drop {α β : Type} {R : α → β → Prop} {l : List α} {l' : List β} (H : All2 R l l') (n : Nat) : All2 R (l.drop n) (l'.drop n) := by
  induction H generalizing n with
  | nil => simp; exact .nil
  | cons x h ih => cases n with
    | zero => simp; exact .cons x h
    | succ n => simp; exact ih n

/-- a block, and the model's -/
def BRel (μ : Mu) (own : Bool) (m : Loc) (h : Array Obj) : BK → Prop
  | .cells cs => ∃ (c : Array Value) (t : TypeId) (fr : Nat × Nat), h[m.blk]? = some (.cells c t fr) ∧ c.size = m.csz ∧ m.sh + cs.length ≤ m.csz ∧ (∀ i a, cs[i]? = some a → ∃ v, c[m.sh + i]? = some v ∧ VA μ a v) ∧ (own = true → fr = (0, 0))
  | .map es => ∃ (l : Array MapEntry) (k : Nat), h[m.blk]? = some (.map l k) ∧ All2 (fun e (x : MapEntry) => VA μ e.1 x.key ∧ VA μ e.2 x.val) es l.toList ∧ (own = true → k = l.size ∧ ∀ (i : Nat) (x : MapEntry), l[i]? = some x → x.born = i)
  | .siter s p => m.sh = 0 ∧ h[m.blk]? = some (.stringIter ⟨s.toArray⟩ p)
  | .miter b n seen => m.sh = 0 ∧ ∃ (m' : Loc), μ b = some m' ∧ h[m.blk]? = some (.mapIter (some m'.blk) n seen.toArray n)

theorem BRel.mono {μ μ' : Mu} (h : μ.le μ') {own : Bool} {m : Loc} {hp hp' : Array Obj} (he : hp'[m.blk]? = hp[m.blk]?) {k : BK} (H : BRel μ own m hp k) : BRel μ' own m hp' k := by
  cases k with
  | cells cs => obtain ⟨c, t, fr, h1, h2, h3, h4, h5⟩ := H; exact ⟨c, t, fr, he.trans h1, h2, h3, fun i a hi => let ⟨v, e, r⟩ := h4 i a hi; ⟨v, e, r.mono h⟩, h5⟩
  | map es => obtain ⟨l, k, h1, h2, h3⟩ := H; exact ⟨l, k, he.trans h1, forall₂_mono (fun _ _ r => ⟨r.1.mono h, r.2.mono h⟩) h2, h3⟩
  | siter s p => exact ⟨H.1, he.trans H.2⟩
  | miter b n seen => obtain ⟨h0, m', h1, h2⟩ := H; exact ⟨h0, m', h _ _ h1, he.trans h2⟩

structure Rel (base : Nat) (μ : Mu) (s : St) (h : Array Obj) : Prop where
  dom : ∀ b m, μ b = some m → b < s.next ∧ m.blk < h.size
  blk : ∀ b B m, s.get b = some B → μ b = some m → BRel μ B.own m h B.k
  own : ∀ b B m, s.get b = some B → B.own = true → μ b = some m → base ≤ m.blk ∧ ∀ b2 m2, b2 ≠ b → (s.get b2).isSome = true → μ b2 = some m2 → m2.blk ≠ m.blk
  fresh : ∀ b, s.next ≤ b → s.get b = none
  base : base ≤ h.size
  glob : ∀ g, g < s.gl → ∃ c, μ g = some ⟨g, 0, c⟩

structure Grow (base : Nat) (μ : Mu) (s : St) (w : World) (μ' : Mu) (s' : St) (w' : World) : Prop where
  mu : μ.le μ'
  below : Below base w w'
  next : s.next ≤ s'.next
  pend : ∀ b, b < s.next → μ b = none → μ' b = none ∧ s'.get b = s.get b
  gl : s'.gl = s.gl

theorem Grow.refl (base : Nat) (μ : Mu) (s : St) (w : World) : Grow base μ s w μ s w := ⟨.refl μ, .refl _ _, Nat.le_refl _, fun _ _ h => ⟨h, rfl⟩, rfl⟩
theorem Grow.trans {base : Nat} {μ μ' μ'' : Mu} {s s' s'' : St} {w w' w'' : World} (h : Grow base μ s w μ' s' w') (k : Grow base μ' s' w' μ'' s'' w'') : Grow base μ s w μ'' s'' w'' :=
  ⟨h.mu.trans k.mu, h.below.trans k.below, Nat.le_trans h.next k.next, fun b hb hm => let ⟨h1, h2⟩ := h.pend b hb hm; let ⟨k1, k2⟩ := k.pend b (Nat.lt_of_lt_of_le hb h.next) h1; ⟨k1, k2.trans h2⟩, k.gl.trans h.gl⟩


def Mu.set (μ : Mu) (b : Nat) (m : Loc) : Mu := fun x => if x = b then some m else μ x

/-- a block of which nothing is known yet may be there -/
theorem Rel.pre {base : Nat} {μ : Mu} {s : St} {h : Array Obj} (R : Rel base μ s h) (B : Blk) : Rel base μ (s.new B) h := by
  have hne : ∀ b m, μ b = some m → b ≠ s.next := fun b m hm e => by have := (R.dom b m hm).1; omega
  refine ⟨fun b m hm => ⟨by have := (R.dom b m hm).1; simp; omega, (R.dom b m hm).2⟩, ?_, ?_, ?_, R.base, R.glob⟩
  · intro b B' m hb hm
    rw [St.get_new, if_neg (hne b m hm)] at hb
    exact R.blk b B' m hb hm
  · intro b B' m hb ho hm
    rw [St.get_new, if_neg (hne b m hm)] at hb
    obtain ⟨h1, h2⟩ := R.own b B' m hb ho hm
    refine ⟨h1, fun b2 m2 hn hs hm2 => ?_⟩
    rw [St.get_new, if_neg (hne b2 m2 hm2)] at hs
    exact h2 b2 m2 hn hs hm2
  · intro b hb
    simp at hb
    rw [St.get_new, if_neg (by omega)]
    exact R.fresh b (by omega)

/-- it is made -/
theorem Rel.adopt {base : Nat} {μ : Mu} {s : St} {w : World} (R : Rel base μ s w.heap) {n : Nat} (hn : n < s.next) (hμ : μ n = none) {B : Blk} (hB : s.get n = some B) (csz : Nat) (o : Obj)
    (hR : ∀ h : Array Obj, h[w.heap.size]? = some o → BRel (μ.set n ⟨w.heap.size, 0, csz⟩) B.own ⟨w.heap.size, 0, csz⟩ h B.k) :
    Rel base (μ.set n ⟨w.heap.size, 0, csz⟩) s (w.alloc o).heap ∧ μ.le (μ.set n ⟨w.heap.size, 0, csz⟩) ∧ Below base w (w.alloc o) := by
  have hle : μ.le (μ.set n ⟨w.heap.size, 0, csz⟩) := fun b m' hb => by
    simp only [Mu.set]; rw [if_neg]; exact hb
    rintro rfl; rw [hμ] at hb; cases hb
  have hsz : (w.alloc o).heap.size = w.heap.size + 1 := by show (w.heap.push o).size = _; simp
  have hold : ∀ k, k < w.heap.size → (w.alloc o).heap[k]? = w.heap[k]? := fun k hk => Below.heap_alloc w o k hk
  have hnew : (w.alloc o).heap[w.heap.size]? = some o := by show (w.heap.push o)[w.heap.size]? = _; simp
  refine ⟨⟨?_, ?_, ?_, R.fresh, ?_, fun g hg => let ⟨c, hc⟩ := R.glob g hg; ⟨c, hle _ _ hc⟩⟩, hle, (Below.refl _ _).alloc R.base o⟩
  · intro b m' hb
    simp only [Mu.set] at hb
    split at hb
    · rename_i e; subst e; cases hb; exact ⟨hn, by rw [hsz]; simp⟩
    · have := R.dom b m' hb; exact ⟨this.1, by rw [hsz]; omega⟩
  · intro b B' m' hb hb'
    simp only [Mu.set] at hb'
    split at hb'
    · rename_i e; subst e; cases hb'; rw [hB] at hb; cases hb
      exact hR _ hnew
    · exact BRel.mono hle (hold _ (R.dom b m' hb').2) (R.blk b B' m' hb hb')
  · intro b B' m' hb ho hb'
    simp only [Mu.set] at hb'
    split at hb'
    · rename_i e; subst e; cases hb'
      refine ⟨R.base, fun b2 m2 hne hs hb2 => ?_⟩
      simp only [Mu.set] at hb2
      rw [if_neg hne] at hb2
      have := (R.dom b2 m2 hb2).2; simp; omega
    · rename_i e
      obtain ⟨h1, h2⟩ := R.own b B' m' hb ho hb'
      refine ⟨h1, fun b2 m2 hne hs hb2 => ?_⟩
      simp only [Mu.set] at hb2
      split at hb2
      · cases hb2; have := (R.dom b m' hb').2; simp; omega
      · exact h2 b2 m2 hne hs hb2
  · rw [hsz]; have := R.base; omega

/-- a new block -/
theorem Rel.alloc {base : Nat} {μ : Mu} {s : St} {w : World} (R : Rel base μ s w.heap) (B : Blk) (m : Loc) (o : Obj) (hm : m.blk = w.heap.size)
    (hB : ∀ μ' : Mu, μ.le μ' → μ' s.next = some m → ∀ h : Array Obj, h[m.blk]? = some o → BRel μ' B.own m h B.k) :
    Rel base (μ.set s.next m) (s.new B) (w.alloc o).heap ∧ Grow base μ s w (μ.set s.next m) (s.new B) (w.alloc o) := by
  have hle : μ.le (μ.set s.next m) := fun b m' hb => by
    have := (R.dom b m' hb).1
    simp only [Mu.set]; rw [if_neg (by omega)]; exact hb
  have hsz : (w.alloc o).heap.size = w.heap.size + 1 := by show (w.heap.push o).size = _; simp
  have hold : ∀ k, k < w.heap.size → (w.alloc o).heap[k]? = w.heap[k]? := fun k hk => Below.heap_alloc w o k hk
  have hnew : (w.alloc o).heap[m.blk]? = some o := by rw [hm]; show (w.heap.push o)[w.heap.size]? = _; simp
  refine ⟨⟨?_, ?_, ?_, ?_, ?_, fun g hg => let ⟨c, hc⟩ := R.glob g hg; ⟨c, hle _ _ hc⟩⟩, ⟨hle, (Below.refl _ _).alloc R.base o, by simp, ?_, rfl⟩⟩
  · intro b m' hb
    simp only [Mu.set] at hb
    split at hb
    · cases hb; subst b; rw [hsz]; simp; omega
    · have := R.dom b m' hb; rw [hsz]; simp; omega
  · intro b B' m' hb hb'
    simp only [Mu.set] at hb'
    rw [St.get_new] at hb
    split at hb'
    · rename_i e; subst e; cases hb'; rw [if_pos rfl] at hb; cases hb
      exact hB _ hle (by simp [Mu.set]) _ hnew
    · rename_i e
      rw [if_neg e] at hb
      exact BRel.mono hle (hold _ (R.dom b m' hb').2) (R.blk b B' m' hb hb')
  · intro b B' m' hb ho hb'
    simp only [Mu.set] at hb'
    rw [St.get_new] at hb
    split at hb'
    · rename_i e; subst e; cases hb'
      refine ⟨by rw [hm]; exact R.base, fun b2 m2 hne hs hb2 => ?_⟩
      simp only [Mu.set] at hb2
      rw [if_neg hne] at hb2
      have := (R.dom b2 m2 hb2).2; omega
    · rename_i e
      rw [if_neg e] at hb
      obtain ⟨h1, h2⟩ := R.own b B' m' hb ho hb'
      refine ⟨h1, fun b2 m2 hne hs hb2 => ?_⟩
      simp only [Mu.set] at hb2
      rw [St.get_new] at hs
      split at hb2
      · cases hb2; have := (R.dom b m' hb').2; omega
      · rename_i e2; rw [if_neg e2] at hs; exact h2 b2 m2 hne hs hb2
  · intro b hb
    rw [St.get_new, if_neg (by simp at hb; omega)]
    exact R.fresh b (by simp at hb; omega)
  · rw [hsz]; have := R.base; omega
  · intro b hb hm'
    constructor
    · simp only [Mu.set]; rw [if_neg (by omega)]; exact hm'
    · rw [St.get_new, if_neg (by omega)]

/-- an own block's content is another one -/
theorem Rel.put {base : Nat} {μ : Mu} {s : St} {w w' : World} (R : Rel base μ s w.heap) {b : Nat} {k : BK} {m : Loc} (hb : s.get b = some ⟨true, k⟩) (hm : μ b = some m) (k' : BK)
    (hsz : w'.heap.size = w.heap.size) (hoth : ∀ x, x ≠ m.blk → w'.heap[x]? = w.heap[x]?) (hB : BRel μ true m w'.heap k') (hos : w'.os = w.os) (htape : w'.tape = w.tape) (hout : w'.output = w.output) :
    Rel base μ (s.put b ⟨true, k'⟩) w'.heap ∧ Grow base μ s w μ (s.put b ⟨true, k'⟩) w' := by
  obtain ⟨o1, o2⟩ := R.own b _ m hb rfl hm
  refine ⟨⟨?_, ?_, ?_, ?_, ?_, R.glob⟩, ⟨.refl μ, ⟨hos, htape, hout, by omega, fun x hx => hoth x (by omega)⟩, by simp, ?_, rfl⟩⟩
  · intro x m' hx; rw [hsz]; exact R.dom x m' hx
  · intro x B m' hx hx'
    rw [St.get_put] at hx
    by_cases e : x = b
    · subst e; rw [if_pos rfl] at hx; cases hx; rw [hm] at hx'; cases hx'; exact hB
    · rw [if_neg e] at hx
      exact BRel.mono (.refl μ) (hoth _ (o2 x m' e (by rw [hx]; rfl) hx')) (R.blk x B m' hx hx')
  · intro x B m' hx ho hx'
    rw [St.get_put] at hx
    have key : ∃ B0, s.get x = some B0 ∧ B0.own = true := by
      by_cases e : x = b
      · subst e; exact ⟨_, hb, rfl⟩
      · rw [if_neg e] at hx; exact ⟨B, hx, ho⟩
    obtain ⟨B0, h0, h1⟩ := key
    obtain ⟨p1, p2⟩ := R.own x B0 m' h0 h1 hx'
    refine ⟨p1, fun b2 m2 hne hs hb2 => p2 b2 m2 hne ?_ hb2⟩
    rw [St.get_put] at hs
    by_cases e : b2 = b
    · subst e; rw [hb]; rfl
    · rwa [if_neg e] at hs
  · intro x hx
    rw [St.get_put]
    by_cases e : x = b
    · subst e; have := R.fresh x (by simpa using hx); rw [hb] at this; cases this
    · rw [if_neg e]; exact R.fresh x (by simpa using hx)
  · rw [hsz]; exact R.base
  · intro x hx hn
    refine ⟨hn, ?_⟩
    rw [St.get_put, if_neg]
    rintro rfl; rw [hm] at hn; cases hn

/-- a block is forgotten -/
theorem Rel.del {base : Nat} {μ : Mu} {s : St} {h : Array Obj} (R : Rel base μ s h) (b : Nat) : Rel base μ (s.del b) h := by
  refine ⟨R.dom, ?_, ?_, ?_, R.base, R.glob⟩
  · intro x B m hx hx'
    rw [St.get_del] at hx
    split at hx
    · cases hx
    · exact R.blk x B m hx hx'
  · intro x B m hx ho hx'
    rw [St.get_del] at hx
    split at hx
    · cases hx
    · obtain ⟨p1, p2⟩ := R.own x B m hx ho hx'
      refine ⟨p1, fun b2 m2 hne hs hb2 => p2 b2 m2 hne ?_ hb2⟩
      rw [St.get_del] at hs
      split at hs
      · simp at hs
      · exact hs
  · intro x hx
    rw [St.get_del]
    split
    · rfl
    · exact R.fresh x (by simpa using hx)

/-- what is known of the program's types -/
def zeroB : AV → Value → Bool
  | .bool false, .bool false => true
  | .int k 0, .int k' 0 => k == k'
  | .str [], .string s => s.data.toList == []
  | .nilp, .pointer none => true
  | .nils, .slice none 0 0 => true
  | .nilm, .map none => true
  | .nilf, .nilFunc => true
  | _, _ => false
def zerosB : List AV → List Value → Bool
  | [], [] => true
  | a :: l, v :: r => zeroB a v && zerosB l r
  | _, _ => false
def kB : TK → TypeDesc → Bool
  | .int k, .int k' => k == k'
  | .bool, .bool => true
  | .str, .string => true
  | .ptr, .pointer _ => true
  | .slice e, .slice e' => e == e'
  | .arr n e, .array n' e' => n == n' && e == e'
  | .map k e, .map k' e' => k == k' && e == e'
  | .func, .func _ _ _ => true
  | .struct fs, .struct gs => gs.toList.map (fun f => (f.offset, f.type)) == fs && gs.toList.all (fun f => f.name != "_")
  | .tuple, .tuple _ => true
  | _, _ => false
def tyB (P : Program) (t : TypeId) (i : TyI) : Bool :=
  match P.info? t, P.underlying t with
  | some inf, some d => inf.size == i.size && inf.bytes == i.bytes && kB i.k d && i.zero.length == i.size &&
    (match inf.zero with
     | some (.agg cs) => i.agg && zerosB i.zero cs.toList
     | some v => !i.agg && zerosB i.zero [v] && (match v with | .tuple _ => false | _ => true)
     | none => false) && (match i.k with | .struct _ => !P.stoodInHeld t | _ => true)
  | _, _ => false
/-- 'a j + b' is the number of the tree's place j -/
def tysG (P : Program) : Tys → Nat → Nat → Bool
  | .e, _, _ => true
  | .n v l r, a, b => (match v with | some i => tyB P b i | none => true) && tysG P l (2 * a) (a + b) && tysG P r (2 * a) (2 * a + b)
def tysB (P : Program) (T : Tys) : Bool := tysG P T 1 0
theorem tysG_spec {P : Program} : ∀ {T : Tys} {a b j : Nat} {i : TyI}, tysG P T a b = true → T.at j = some i → tyB P (a * j + b) i = true
  | .e, _, _, _, _, _, h => by simp [Tys.at] at h
  | .n v l r, a, b, 0, i, hB, h => by
    simp only [Tys.at] at h; subst h
    simp only [tysG, Bool.and_eq_true] at hB
    simpa using hB.1.1
  | .n v l r, a, b, j + 1, i, hB, h => by
    simp only [tysG, Bool.and_eq_true] at hB
    simp only [Tys.at] at h
    split at h
    · rename_i hj
      have := tysG_spec hB.1.2 h
      have e : 2 * a * (j / 2) + (a + b) = a * (j + 1) + b := by
        have h1 : j = 2 * (j / 2) := by omega
        calc 2 * a * (j / 2) + (a + b) = a * (2 * (j / 2)) + (a + b) := by rw [Nat.mul_comm 2 a, Nat.mul_assoc]
          _ = a * (j + 1) + b := by rw [← h1, Nat.mul_add]; omega
      rwa [e] at this
    · rename_i hj
      have := tysG_spec hB.2 h
      have e : 2 * a * (j / 2) + (2 * a + b) = a * (j + 1) + b := by
        have h1 : j = 2 * (j / 2) + 1 := by omega
        calc 2 * a * (j / 2) + (2 * a + b) = a * (2 * (j / 2) + 1) + a + b := by rw [Nat.mul_add, Nat.mul_comm 2 a, Nat.mul_assoc]; omega
          _ = a * (j + 1) + b := by rw [← h1, Nat.mul_add]; omega
      rwa [e] at this

structure TyOk (P : Program) (t : TypeId) (i : TyI) (inf : TypeInfo) (d : TypeDesc) (z : Value) : Prop where
  info : P.info? t = some inf
  und : P.underlying t = some d
  size : inf.size = i.size
  bytes : inf.bytes = i.bytes
  k : kB i.k d = true
  zl : i.zero.length = i.size
  zero : inf.zero = some z
  zc : ∀ μ, VL μ i.zero z.cells.toList
  agg : i.agg = true → ∃ l : List Value, z = .agg l.toArray
  leaf : i.agg = false → z.cells = #[z]
  held : ∀ fs, i.k = .struct fs → P.stoodInHeld t = false

theorem zeroB_spec {a : AV} {v : Value} (h : zeroB a v = true) (μ : Mu) : VA μ a v := by
  unfold zeroB at h
  split at h <;> simp_all [VA]
  rename_i s; cases s; simp_all
theorem zerosB_spec : ∀ {l : List AV} {r : List Value}, zerosB l r = true → ∀ μ, VL μ l r
  | [], [], _, _ => .nil
  | [], _ :: _, h, _ => by simp [zerosB] at h
  | _ :: _, [], h, _ => by simp [zerosB] at h
  | a :: l, v :: r, h, μ => by
    simp only [zerosB, Bool.and_eq_true] at h
    exact .cons (zeroB_spec h.1 μ) (zerosB_spec h.2 μ)
theorem tyOk_of {P : Program} {t : TypeId} {i : TyI} (h : tyB P t i = true) : ∃ inf d z, TyOk P t i inf d z := by
  unfold tyB at h
  split at h
  · rename_i inf d h1 h2
    simp only [Bool.and_eq_true, beq_iff_eq] at h
    obtain ⟨⟨⟨⟨⟨hs, hb⟩, hk⟩, hz⟩, h5⟩, h6⟩ := h
    have hh : ∀ fs, i.k = .struct fs → P.stoodInHeld t = false := by
      intro fs e; rw [e] at h6; simpa using h6
    split at h5
    · rename_i cs hcs
      simp only [Bool.and_eq_true] at h5
      exact ⟨inf, d, _, h1, h2, hs, hb, hk, hz, hcs, fun μ => zerosB_spec (by simpa [Value.cells] using h5.2) μ, fun _ => ⟨cs.toList, by simp⟩, (fun e => by rw [e] at h5; simp at h5), hh⟩
    · rename_i v hnot hv
      simp only [Bool.and_eq_true, Bool.not_eq_true'] at h5
      obtain ⟨⟨h5, h7⟩, h8⟩ := h5
      have hc : v.cells = #[v] := by cases v <;> first | rfl | exact absurd rfl (hnot _)
      exact ⟨inf, d, v, h1, h2, hs, hb, hk, hz, hv, fun μ => by rw [hc]; exact zerosB_spec h7 μ, (fun e => by rw [e] at h5; cases h5), fun _ => hc, hh⟩
    · cases h5
  · cases h
theorem tysB_spec {P : Program} {T : Tys} (h : tysB P T = true) {t : TypeId} {i : TyI} (ht : T.at t = some i) : ∃ inf d z, TyOk P t i inf d z := by
  have := tysG_spec h ht
  simp only [Nat.one_mul, Nat.add_zero] at this
  exact tyOk_of this
theorem kd_spec {T : Tys} {t : TypeId} {k : TK} (h : T.kd t = some k) : ∃ i, T.at t = some i ∧ i.k = k := by
  unfold Tys.kd at h
  split at h
  · rename_i i hi; simp at h; exact ⟨i, hi, h⟩
  · cases h
end Go.Proofs.YtijkkgloennglaaGreatDoor.Ab
