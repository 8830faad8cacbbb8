/-
  The abstract machine of this seat's proofs: values, memory without a tape, and one step of each operation. No condition.
-/
import Derived.Below
import Derived.Orders
import Derived.Laws.CopyRow
import Derived.Laws.Cells
set_option linter.all false
namespace Go.Proofs.YtijkkgloennglaaGreatDoor.Ab
open Go Go.RowKit

inductive AV where
  | bool (b : Bool) | int (k : IntKind) (n : Int) | str (s : List UInt8)
  | nilp | ptr (b off : Nat) | nils | emp | sl (b off len es : Nat) (cap : Option Nat)
  | nilm | map (b : Nat) | fn (f : FuncId) (ps qs : List (Nat × Nat)) | nilf
  deriving DecidableEq, Inhabited

inductive TV where
  | v (a : AV) | agg (cs : List AV) | tup (xs : List (Bool × List AV))
  deriving DecidableEq, Inhabited

inductive BK where
  | cells (cs : List AV) | map (es : List (AV × AV)) | siter (s : List UInt8) (pos : Nat) | miter (b n : Nat) (seen : List Nat)
  deriving DecidableEq, Inhabited

structure Blk where
  own : Bool
  k : BK
  deriving DecidableEq, Inhabited

/-- memory: a tree by the block's number -/
inductive Tr where
  | e | n (v : Option Blk) (l r : Tr)
  deriving Inhabited

def Tr.get : Tr → Nat → Option Blk
  | .e, _ => none
  | .n v _ _, 0 => v
  | .n _ l r, i + 1 => if i % 2 = 0 then l.get (i / 2) else r.get (i / 2)

def Tr.parts : Tr → Option Blk × Tr × Tr
  | .e => (none, .e, .e)
  | .n v l r => (v, l, r)

def Tr.set : Nat → Tr → Nat → Option Blk → Tr
  | 0, t, _, _ => t
  | _ + 1, t, 0, b => .n b t.parts.2.1 t.parts.2.2
  | f + 1, t, i + 1, b => if i % 2 = 0 then .n t.parts.1 (Tr.set f t.parts.2.1 (i / 2) b) t.parts.2.2 else .n t.parts.1 t.parts.2.1 (Tr.set f t.parts.2.2 (i / 2) b)

theorem Tr.get_parts (t : Tr) (i : Nat) : t.get i = match i with | 0 => t.parts.1 | j + 1 => if j % 2 = 0 then t.parts.2.1.get (j / 2) else t.parts.2.2.get (j / 2) := by
  cases t with
  | e => cases i <;> simp [Tr.get, Tr.parts]
  | n v l r => cases i <;> simp [Tr.get, Tr.parts]

theorem Tr.get_set : ∀ (f : Nat) (t : Tr) (i : Nat) (b : Option Blk) (j : Nat), i < f → (Tr.set f t i b).get j = if j = i then b else t.get j
  | 0, _, _, _, _, h => by omega
  | f + 1, t, 0, b, j, _ => by
    cases j with
    | zero => simp [Tr.set, Tr.get]
    | succ j => rw [Tr.get_parts t]; simp [Tr.set, Tr.get]
  | f + 1, t, i + 1, b, j, h => by
    have ih := fun (t : Tr) (j : Nat) => Tr.get_set f t (i / 2) b j (by omega)
    cases j with
    | zero =>
      rw [Tr.get_parts t]; unfold Tr.set
      split <;> simp [Tr.get]
    | succ j =>
      rw [Tr.get_parts t]; unfold Tr.set
      by_cases hi : i % 2 = 0
      · rw [if_pos hi]; simp only [Tr.get]
        by_cases hj : j % 2 = 0
        · rw [if_pos hj, if_pos hj, ih]
          by_cases e : j = i
          · subst e; simp
          · rw [if_neg (by omega), if_neg (by omega)]
        · rw [if_neg hj, if_neg hj, if_neg (by omega)]
      · rw [if_neg hi]; simp only [Tr.get]
        by_cases hj : j % 2 = 0
        · rw [if_pos hj, if_pos hj, if_neg (by omega)]
        · rw [if_neg hj, if_neg hj, ih]
          by_cases e : j = i
          · subst e; simp
          · rw [if_neg (by omega), if_neg (by omega)]

structure St where
  gl : Nat
  next : Nat
  mem : Tr
  deriving Inhabited

def St.get (s : St) (b : Nat) : Option Blk := s.mem.get b
def St.put (s : St) (b : Nat) (B : Blk) : St := { s with mem := Tr.set (b + 1) s.mem b (some B) }
def St.del (s : St) (b : Nat) : St := { s with mem := Tr.set (b + 1) s.mem b none }
def St.new (s : St) (B : Blk) : St := { s with next := s.next + 1, mem := Tr.set (s.next + 1) s.mem s.next (some B) }

@[simp] theorem St.get_put (s : St) (b : Nat) (B : Blk) (j : Nat) : (s.put b B).get j = if j = b then some B else s.get j := Tr.get_set _ _ _ _ _ (by omega)
@[simp] theorem St.get_del (s : St) (b : Nat) (j : Nat) : (s.del b).get j = if j = b then none else s.get j := Tr.get_set _ _ _ _ _ (by omega)
@[simp] theorem St.get_new (s : St) (B : Blk) (j : Nat) : (s.new B).get j = if j = s.next then some B else s.get j := Tr.get_set _ _ _ _ _ (by omega)
theorem St.get_delnew (s : St) (b : Nat) (B : Blk) (j : Nat) : ((s.del b).new B).get j = if j = s.next then some B else if j = b then none else s.get j := by rw [St.get_new, St.get_del]; rfl
@[simp] theorem St.next_put (s : St) (b : Nat) (B : Blk) : (s.put b B).next = s.next := rfl
@[simp] theorem St.next_del (s : St) (b : Nat) : (s.del b).next = s.next := rfl
@[simp] theorem St.gl_put (s : St) (b : Nat) (B : Blk) : (s.put b B).gl = s.gl := rfl
@[simp] theorem St.gl_del (s : St) (b : Nat) : (s.del b).gl = s.gl := rfl
@[simp] theorem St.gl_new (s : St) (B : Blk) : (s.new B).gl = s.gl := rfl
@[simp] theorem St.next_new (s : St) (B : Blk) : (s.new B).next = s.next + 1 := rfl

/-- what is known of a type -/
inductive TK where
  | int (k : IntKind) | bool | str | ptr | slice (e : Nat) | arr (n e : Nat) | map (k e : Nat) | func | struct (fs : List (Nat × Nat)) | tuple
  deriving DecidableEq, Inhabited
structure TyI where
  k : TK
  size : Nat
  bytes : Nat
  zero : List AV
  deriving DecidableEq, Inhabited

/-- the types' table: a tree by the type's number -/
inductive Tys where
  | e | n (v : Option TyI) (l r : Tys)
def Tys.at : Tys → Nat → Option TyI
  | .e, _ => none
  | .n v _ _, 0 => v
  | .n _ l r, i + 1 => if i % 2 = 0 then l.at (i / 2) else r.at (i / 2)
def Tys.kd (T : Tys) (t : Nat) : Option TK := match T.at t with | some i => some i.k | none => none
def TyI.agg (i : TyI) : Bool := match i.k with | .struct _ | .arr _ _ => true | _ => false
/-- cells as a value of a type -/
def TyI.wrap (i : TyI) (cs : List AV) : Option TV := if i.agg then some (.agg cs) else match cs with | [a] => some (.v a) | _ => none
def TV.cells : TV → Option (List AV)
  | .v a => some [a]
  | .agg cs => some cs
  | .tup _ => none
def TV.part : TV → Option (Bool × List AV)
  | .v a => some (false, [a])
  | .agg cs => some (true, cs)
  | .tup _ => none
def ofPart : Bool × List AV → Option TV
  | (false, [a]) => some (.v a)
  | (false, _) => none
  | (true, cs) => some (.agg cs)

abbrev Env := List (Nat × TV)
def Env.get : Env → Nat → Option TV
  | [], _ => none
  | (k, x) :: r, t => if k = t then some x else Env.get r t

def ofConst : Value → Option TV
  | .bool b => some (.v (.bool b))
  | .int k n => some (.v (.int k n))
  | .string s => some (.v (.str s.data.toList))
  | .pointer none => some (.v .nilp)
  | .slice none 0 0 => some (.v .nils)
  | .map none => some (.v .nilm)
  | .nilFunc => some (.v .nilf)
  | .tuple vs => if vs.size = 0 then some (.tup []) else none
  | _ => none

def opd (gl : Nat) (e : Env) : Operand → Option TV
  | .tmp t => e.get t
  | .const v => ofConst v
  | .global g => if g < gl then some (.v (.ptr g 0)) else none
  | .func f => some (.v (.fn f [] []))

def isInt : TV → Option Int
  | .v (.int _ n) => some n
  | _ => none

/-- '+', '<' and so on of whole numbers of one kind -/
def intBin (op : BinOp) (k : IntKind) (a b : Int) : Option TV :=
  match op with
  | .add => some (.v (.int k (k.wrap (a + b))))
  | .sub => some (.v (.int k (k.wrap (a - b))))
  | .mul => some (.v (.int k (k.wrap (a * b))))
  | .quo => if b = 0 then none else some (.v (.int k (k.wrap (a.tdiv b))))
  | .rem => if b = 0 then none else some (.v (.int k (a.tmod b)))
  | .and => some (.v (.int k (k.wrap (BitVec.ofInt k.bits a &&& BitVec.ofInt k.bits b).toNat)))
  | .or => some (.v (.int k (k.wrap (BitVec.ofInt k.bits a ||| BitVec.ofInt k.bits b).toNat)))
  | .xor => some (.v (.int k (k.wrap (BitVec.ofInt k.bits a ^^^ BitVec.ofInt k.bits b).toNat)))
  | .eql => some (.v (.bool (a == b)))
  | .neq => some (.v (.bool (a != b)))
  | .lss => some (.v (.bool (a < b)))
  | .leq => some (.v (.bool (a ≤ b)))
  | .gtr => some (.v (.bool (a > b)))
  | .geq => some (.v (.bool (a ≥ b)))
  | _ => none

def shiftBin (op : BinOp) (k : IntKind) (a b : Int) : Option TV :=
  if b < 0 then none else
  match op with
  | .shl => some (.v (.int k (k.wrap (a * 2 ^ min b.toNat k.bits))))
  | .shr => some (.v (.int k (a.fdiv (2 ^ min b.toNat k.bits))))
  | _ => none

def strBin (op : BinOp) (a b : List UInt8) : Option TV :=
  match op with
  | .add => if a.length + b.length ≤ 9223372036854775807 then some (.v (.str (a ++ b))) else none
  | .eql => some (.v (.bool (a == b)))
  | .neq => some (.v (.bool (!(a == b))))
  | _ => none

/-- cells that may be compared one by one, all plain -/
def plainEq : List AV → List AV → Option Bool
  | [], [] => some true
  | .int k a :: r, .int k' b :: s => if k = k' then (plainEq r s).map fun x => (a == b) && x else none
  | .str a :: r, .str b :: s => (plainEq r s).map fun x => (a == b) && x
  | .bool a :: r, .bool b :: s => (plainEq r s).map fun x => (a == b) && x
  | _, _ => none

/-- is one of two nil, and are they the same? -/
def nilEq : TK → AV → AV → Option Bool
  | .bool, .bool a, .bool b => some (a == b)
  | .ptr, .nilp, .nilp => some true
  | .ptr, .nilp, .ptr _ _ => some false
  | .ptr, .ptr _ _, .nilp => some false
  | .slice _, .nils, .nils => some true
  | .slice _, .nils, .sl _ _ _ _ _ => some false
  | .slice _, .sl _ _ _ _ _, .nils => some false
  | .slice _, .nils, .emp => some false
  | .slice _, .emp, .nils => some false
  | .func, .nilf, .nilf => some true
  | .func, .nilf, .fn _ _ _ => some false
  | .func, .fn _ _ _, .nilf => some false
  | _, _, _ => none

/-- are all fields of a struct plain ones, of one cell each, in order? -/
def flatFrom (T : Tys) : Nat → List (Nat × Nat) → Bool
  | _, [] => true
  | i, (off, t) :: r => off == i && (match T.at t with | some x => (match x.k with | .int _ | .bool | .str => true | _ => false) | none => false) && flatFrom T (i + 1) r

def binA (T : Tys) (op : BinOp) (t : TypeId) (x y : TV) : Option TV :=
  match x, y with
  | .v (.int k a), .v (.int k' b) =>
    match op with
    | .shl | .shr => shiftBin op k a b
    | _ => if k = k' then intBin op k a b else none
  | .v (.str a), .v (.str b) => strBin op a b
  | .v a, .v b =>
    match T.at t with
    | some i =>
      match op with
      | .eql => (nilEq i.k a b).map fun r => .v (.bool r)
      | .neq => (nilEq i.k a b).map fun r => .v (.bool (!r))
      | _ => none
    | none => none
  | _, _ => none

def unA (op : UnOp) (x : TV) : Option TV :=
  match op, x with
  | .neg, .v (.int k n) => some (.v (.int k (k.wrap (0 - n))))
  | .not, .v (.bool b) => some (.v (.bool (!b)))
  | _, _ => none

/-- a struct's (an array's) cells, some of them laid anew -/
def fillA (place : Nat → Option (Nat × Nat)) : List AV → List (Nat × TV) → Option (List AV)
  | cs, [] => some cs
  | cs, (i, x) :: rest =>
    match place i, x.cells with
    | some (off, size), some xs => if xs.length = size ∧ off + xs.length ≤ cs.length then fillA place (cs.take off ++ xs ++ cs.drop (off + xs.length)) rest else none
    | _, _ => none

def partsOf (gl : Nat) (e : Env) : List (Nat × Operand) → Option (List (Nat × TV))
  | [] => some []
  | (i, x) :: r => match opd gl e x, partsOf gl e r with
    | some v, some l => some ((i, v) :: l)
    | _, _ => none
def opds (gl : Nat) (e : Env) : List Operand → Option (List TV)
  | [] => some []
  | x :: r => match opd gl e x, opds gl e r with
    | some v, some l => some (v :: l)
    | _, _ => none

def ptrs : List TV → Option (List (Nat × Nat))
  | [] => some []
  | .v (.ptr b o) :: r => (ptrs r).map ((b, o) :: ·)
  | _ => none

def fieldPlaces (T : Tys) : List (Nat × Nat) → Option (List (Nat × Nat))
  | [] => some []
  | (off, t) :: r => match T.at t, fieldPlaces T r with
    | some i, some l => some ((off, i.size) :: l)
    | _, _ => none

def zeros (zero : List AV) : Nat → List AV
  | 0 => []
  | n + 1 => zero ++ zeros zero n

def St.cells (s : St) (b : Nat) : Option (List AV) := match s.get b with | some { k := .cells cs, .. } => some cs | _ => none
def St.ownCells (s : St) (b : Nat) : Option (List AV) := match s.get b with | some { own := true, k := .cells cs } => some cs | _ => none

def boundA (d : Nat) : Option TV → Option Nat
  | none => some d
  | some (.v (.int _ n)) => if 0 ≤ n then some n.toNat else none
  | some _ => none
def sliceA (T : Tys) (t : TypeId) (x : TV) (lo hi mx : Option TV) : Option TV :=
  match T.kd t, x with
  | some .str, .v (.str s) =>
    match mx, boundA 0 lo, boundA s.length hi with
    | none, some l, some h => if l ≤ h ∧ h ≤ s.length then some (.v (.str ((s.take h).drop l))) else none
    | _, _, _ => none
  | some (.slice e), .v (.sl b off len es cap) =>
    match (T.at e), boundA 0 lo, boundA len hi with
    | some i, some l, some h =>
      if i.size ≠ es ∨ ¬ (l ≤ h) ∨ ¬ (h ≤ len) then none else
      match mx, hi with
      | none, _ => some (.v (.sl b (off + l * es) (h - l) es (cap.map (· - l))))
      | some (.v (.int _ m)), some _ => if 0 ≤ m ∧ m.toNat ≤ len ∧ h ≤ m.toNat then some (.v (.sl b (off + l * es) (h - l) es (some (m.toNat - l)))) else none
      | _, _ => none
    | _, _, _ => none
  | some (.slice e), .v .emp =>
    match T.at e, boundA 0 lo, boundA 0 hi, mx, hi with
    | some _, some 0, some 0, none, _ => some (.v .emp)
    | some _, some 0, some 0, some (.v (.int _ 0)), some _ => some (.v .emp)
    | _, _, _, _, _ => none
  | some (.arr n e), .v (.ptr b off) =>
    match (T.at e), boundA 0 lo, boundA n hi with
    | some i, some l, some h =>
      if mx.isSome ∨ ¬ (l ≤ h) ∨ ¬ (h ≤ n) then none else
      some (.v (.sl b (off + l * i.size) (h - l) i.size (some (n - l))))
    | _, _, _ => none
  | some (.slice e), .v .nils =>
    match T.at e, boundA 0 lo, boundA 0 hi, mx, hi with
    | some _, some 0, some 0, none, _ => some (.v .nils)
    | some _, some 0, some 0, some (.v (.int _ 0)), some _ => some (.v .nils)
    | _, _, _, _, _ => none
  | _, _ => none

def findA (k : AV) : List (AV × AV) → Option (Option AV)
  | [] => some none
  | (k', v) :: r =>
    match k, k' with
    | .int x a, .int y b => if x = y then (if a = b then some (some v) else findA k r) else none
    | .str a, .str b => if a = b then some (some v) else findA k r
    | _, _ => none
/-- the place of a key that is there -/
def idxA (k : AV) : List (AV × AV) → Nat
  | [] => 0
  | (k', _) :: r => if k = k' then 0 else idxA k r + 1
def putA (k v : AV) : List (AV × AV) → List (AV × AV)
  | [] => [(k, v)]
  | (k', v') :: r => if k = k' then (k, v) :: r else (k', v') :: putA k v r

def keyOk : TK → AV → Bool
  | .int k, .int k' _ => k == k'
  | .str, .str _ => true
  | _, _ => false
def mapOf (s : St) : TV → Option (List (AV × AV))
  | .v .nilm => some []
  | .v (.map b) => match s.get b with | some { k := .map es, .. } => some es | _ => none
  | _ => none
def lookupA (T : Tys) (t : TypeId) (m k : TV) (ok : Bool) (s : St) : Option TV :=
  match T.kd t, mapOf s m, k with
  | some (.map kt et), some es, .v key =>
    match T.at kt, T.at et with
    | some ki, some ei =>
      if keyOk ki.k key && !ei.agg then
        match findA key es, ei.zero with
        | some (some v), _ => some (if ok then .tup [(false, [v]), (false, [.bool true])] else .v v)
        | some none, [z] => some (if ok then .tup [(false, [z]), (false, [.bool false])] else .v z)
        | _, _ => none
      else none
    | _, _ => none
  | _, _, _ => none
def updateA (T : Tys) (t : TypeId) (m k x : TV) (s : St) : Option St :=
  match T.kd t, m, k, x with
  | some (.map kt _), .v (.map b), .v key, .v val =>
    match T.at kt, s.get b with
    | some ki, some { own := true, k := .map es } =>
      if keyOk ki.k key then match findA key es with | some _ => some (s.put b ⟨true, .map (putA key val es)⟩) | none => none else none
    | _, _ => none
  | _, _, _, _ => none

/-- the entry of a key, and its stamp: how many were made before it -/
def entryA (T : Tys) (t : TypeId) (m k : TV) (s : St) : Option (TV × St) :=
  match T.kd t, m, k with
  | some (.map kt et), .v (.map b), .v key =>
    match T.at kt, T.at et, s.get b with
    | some ki, some ei, some { own := true, k := .map es } =>
      if keyOk ki.k key && !ei.agg then
        match findA key es, ei.zero with
        | some (some v), _ => some (.tup [(false, [v]), (false, [.int .i64 (idxA key es)])], s.put b ⟨true, .map es⟩)
        | some none, [z] => some (.tup [(false, [z]), (false, [.int .i64 es.length])], s.put b ⟨true, .map (es ++ [(key, z)])⟩)
        | _, _ => none
      else none
    | _, _, _ => none
  | _, _, _ => none
def storeA (m st x : TV) (s : St) : Option St :=
  match m, st, x with
  | .v (.map b), .v (.int _ n), .v val =>
    match s.get b with
    | some { own := true, k := .map es } => if 0 ≤ n then match es[n.toNat]? with | some p => some (s.put b ⟨true, .map (es.set n.toNat (p.1, val))⟩) | none => none else none
    | _ => none
  | _, _, _ => none
/-- how an iteration may go on: to any entry that was not seen; with none left it ends -/
def leftA (seen : List Nat) : Nat → List (AV × AV) → List (Nat × AV × AV)
  | _, [] => []
  | i, p :: r => if seen.contains i then leftA seen (i + 1) r else (i, p) :: leftA seen (i + 1) r
def manyA (o : Op) (e : Env) (s : St) : Option (List (TV × St)) :=
  match o with
  | .next it false => match opd s.gl e it with
    | some (.v (.ptr b 0)) => match s.get b with
      | some { own := true, k := .miter mb n seen } => match s.get mb with
        | some { own := true, k := .map es } =>
          if es.length = n then match leftA seen 0 es with
            | [] => some [(.tup [(false, [.bool false])], s)]
            | l => some (l.map fun p => (.tup [(false, [.bool true]), (false, [p.2.1]), (false, [p.2.2])], s.put b ⟨true, .miter mb n (seen ++ [p.1])⟩))
          else none
        | _ => none
      | _ => none
    | _ => none
  | _ => none

/-- how many elements are appended, and their cells -/
def srcA (i : TyI) (s : St) : TV → Option (Nat × List AV)
  | .v .nils => some (0, [])
  | .v .emp => some (0, [])
  | .v (.sl b off len es _) => if es = i.size then (if len = 0 then some (0, []) else match s.cells b with | some cs => if off + len * es ≤ cs.length then some (len, (cs.drop off).take (len * es)) else none | none => none) else none
  | .v (.str l) => if i.k = .int .u8 ∧ i.size = 1 then some (l.length, l.map fun c => .int .u8 c.toNat) else none
  | _ => none
/-- a slice's own cells -/
def oldA (s : St) (b off len es : Nat) : Option (List AV) :=
  if len = 0 then some [] else match s.cells b with | some cs => if off + len * es ≤ cs.length then some ((cs.drop off).take (len * es)) else none | none => none
/-- n > 0 elements behind others -/
def moreA (i : TyI) (s : St) (n : Nat) (new : List AV) : TV → Option (TV × St)
  | .v .nils => some (.v (.sl s.next 0 n i.size none), s.new ⟨true, .cells new⟩)
  | .v .emp => some (.v (.sl s.next 0 n i.size none), s.new ⟨true, .cells new⟩)
  | .v (.sl b off len es cap) =>
    if es ≠ i.size ∨ 1099511627776 < (len + n) * i.bytes then none else
    match oldA s b off len es, cap with
    | some o, some c => if len + n ≤ c then none else some (.v (.sl s.next 0 (len + n) es none), s.new ⟨true, .cells (o ++ new)⟩)
    | some o, none => match s.ownCells b with
      | some _ => some (.v (.sl s.next 0 (len + n) es none), (s.del b).new ⟨true, .cells (o ++ new)⟩)
      | none => none
    | none, _ => none
  | _ => none
/-- append(x, y...) -/
def appendA (T : Tys) (t : TypeId) (x y : TV) (s : St) : Option (TV × St) :=
  match T.kd t with
  | some (.slice e) =>
    match T.at e with
    | some i =>
      match srcA i s y with
      | some (n, new) =>
        if n = 0 then (match x with | .v .nils => some (x, s) | .v .emp => some (x, s) | .v (.sl _ _ _ es _) => if es = i.size then some (x, s) else none | _ => none) else
        if i.bytes = 0 ∨ i.size = 0 ∨ 1099511627776 < n * i.bytes then none else moreA i s n new x
      | none => none
    | none => none
  | _ => none

def minA (mx : Bool) : List TV → Option TV
  | [.v (.int k a), .v (.int k' b)] => if k = k' then some (.v (.int k (if mx then (if b > a then b else a) else (if b < a then b else a)))) else none
  | _ => none

def lenA (T : Tys) (t : TypeId) (x : TV) (s : St) : Option TV :=
  match T.kd t, x with
  | some .str, .v (.str l) => some (.v (.int .i64 l.length))
  | some (.slice _), .v .nils => some (.v (.int .i64 0))
  | some (.slice _), .v .emp => some (.v (.int .i64 0))
  | some (.slice _), .v (.sl _ _ n _ _) => some (.v (.int .i64 n))
  | some (.arr n _), .agg _ => some (.v (.int .i64 n))
  | some (.map _ _), _ => (mapOf s x).map fun es => .v (.int .i64 es.length)
  | _, _ => none

/-- the block that is made, and what is answered, by the block's number -/
def allocA (T : Tys) (gl : Nat) (o : Op) (e : Env) : Option ((Nat → TV) × BK) :=
  match o with
  | .alloc t => match T.at t with | some i => some (fun n => .v (.ptr n 0), .cells i.zero) | none => none
  | .box _ x => match opd gl e x with
    | some v => match v.cells with | some cs => some (fun n => .v (.ptr n 0), .cells cs) | none => none
    | none => none
  | .buildSlice t len ps => match T.kd t, partsOf gl e ps.toList with
    | some (.slice et), some l => match T.at et with
      | some i => if len * i.size > 16777216 then none else
        match fillA (fun j => some (j * i.size, i.size)) (zeros i.zero len) l with
        | some cs => some (fun n => .v (.sl n 0 len i.size (some len)), .cells cs)
        | none => none
      | none => none
    | _, _ => none
  | .makeMap _ none => some (fun n => .v (.map n), .map [])
  | .makeSlice t l c => match T.kd t, opd gl e l, opd gl e c with
    | some (.slice et), some (.v (.int _ n)), some (.v (.int _ m)) => match T.at et with
      | some i => if 0 ≤ n ∧ n ≤ m ∧ m ≤ 1099511627776 ∧ i.bytes * m.toNat ≤ 1099511627776 then some (fun b => .v (.sl b 0 n.toNat i.size (some m.toNat)), .cells (zeros i.zero m.toNat)) else none
      | none => none
    | _, _, _ => none
  | _ => none

/-- what an operation does to memory -/
inductive Cls where
  | pure | read | alloc | loud
  deriving DecidableEq
def clsOf : Op → Cls
  | .move _ | .assign _ | .pick .. | .build .. | .nilCheck _ | .binOp .. | .unOp .. | .convert .. | .makeFunc .. | .slice .. | .fieldAddr .. | .field .. | .indexAddr .. | .index .. | .extract .. => .pure
  | .call { callee := .builtin .min, .. } | .call { callee := .builtin .max, .. } => .pure
  | .load .. | .lookup .. | .call { callee := .builtin .len, .. } => .read
  | .alloc _ | .box _ _ | .buildSlice _ _ _ | .makeMap _ none | .makeSlice _ _ _ => .alloc
  | _ => .loud

def bnd (gl : Nat) (e : Env) : Option Operand → Option (Option TV)
  | none => some none
  | some y => (opd gl e y).map some

/-- an operation that looks at no memory -/
def pureA (T : Tys) (gl : Nat) (o : Op) (e : Env) : Option TV :=
  match o with
  | .move x | .assign x => opd gl e x
  | .pick c a b => match opd gl e c with
    | some (.v (.bool true)) => opd gl e a
    | some (.v (.bool false)) => opd gl e b
    | _ => none
  | .build t ps => match T.at t, partsOf gl e ps.toList with
    | some { k := .struct fs, zero, .. }, some l => match fieldPlaces T fs with
      | some pl => (fillA (pl[·]?) zero l).map .agg
      | none => none
    | some { k := .arr _ et, zero, .. }, some l => match T.at et with
      | some i => (fillA (fun j => some (j * i.size, i.size)) zero l).map .agg
      | none => none
    | _, _ => none
  | .nilCheck x => match opd gl e x with
    | some (.v (.ptr b off)) => some (.v (.ptr b off))
    | some (.v (.fn f p q)) => some (.v (.fn f p q))
    | _ => none
  | .binOp op t x y _ => match opd gl e x, opd gl e y with
    | some a, some b => binA T op t a b
    | _, _ => none
  | .unOp op _ x => match opd gl e x with
    | some a => unA op a
    | none => none
  | .convert src dst x => match T.kd src, T.kd dst, opd gl e x with
    | some (.int _), some (.int k), some (.v (.int _ n)) => some (.v (.int k (k.wrap n)))
    | some .str, some .str, some (.v (.str l)) => some (.v (.str l))
    | _, _, _ => none
  | .makeFunc (.func f) first captured => match opds gl e first.toList, opds gl e captured.toList with
    | some ps, some qs => match ptrs ps, ptrs qs with
      | some ps, some qs => some (.v (.fn f ps qs))
      | _, _ => none
    | _, _ => none
  | .slice t x lo hi mx => match opd gl e x, bnd gl e lo, bnd gl e hi, bnd gl e mx with
    | some v, some l, some h, some m => sliceA T t v l h m
    | _, _, _, _ => none
  | .fieldAddr st x f => match T.kd st, opd gl e x with
    | some (.struct fs), some (.v (.ptr b off)) => match fs[f]? with
      | some (fo, ft) => match T.at ft with
        | some i => if i.size = 0 then none else some (.v (.ptr b (off + fo)))
        | none => none
      | none => none
    | _, _ => none
  | .field t x f => match T.kd t, opd gl e x with
    | some (.struct fs), some (.agg cs) => match fs[f]? with
      | some (fo, ft) => match T.at ft with
        | some i => i.wrap ((cs.drop fo).take i.size)
        | none => none
      | none => none
    | _, _ => none
  | .indexAddr t x ix => match T.kd t, opd gl e x, opd gl e ix with
    | some (.slice et), some (.v (.sl b off len es _)), some (.v (.int _ i)) => match T.at et with
      | some ti => if ti.size = es ∧ 0 ≤ i ∧ i < len then some (.v (.ptr b (off + i.toNat * es))) else none
      | none => none
    | some (.arr n et), some (.v (.ptr b off)), some (.v (.int _ i)) => match T.at et with
      | some ti => if 0 ≤ i ∧ i < n then some (.v (.ptr b (off + i.toNat * ti.size))) else none
      | none => none
    | _, _, _ => none
  | .index t x ix => match T.kd t, opd gl e x, opd gl e ix with
    | some (.arr n et), some (.agg cs), some (.v (.int _ i)) => match T.at et with
      | some ti => if 0 ≤ i ∧ i < n then ti.wrap ((cs.drop (i.toNat * ti.size)).take ti.size) else none
      | none => none
    | some .str, some (.v (.str l)), some (.v (.int _ i)) => if 0 ≤ i then (l[i.toNat]?).map fun c => .v (.int .u8 c.toNat) else none
    | _, _, _ => none
  | .extract x i => match opd gl e x with
    | some (.tup xs) => match xs[i]? with
      | some p => ofPart p
      | none => none
    | _ => none
  | .call { callee := .builtin b, args, .. } => match b, opds gl e args.toList with
    | .min, some l => minA false l
    | .max, some l => minA true l
    | _, _ => none
  | _ => none

/-- an operation that reads memory -/
def readA (T : Tys) (o : Op) (e : Env) (s : St) : Option TV :=
  match o with
  | .load t a => match T.at t, opd s.gl e a with
    | some i, some (.v (.ptr b off)) => match s.cells b with
      | some cs => if off + i.size ≤ cs.length then i.wrap ((cs.drop off).take i.size) else none
      | none => none
    | _, _ => none
  | .lookup t m k ok => match opd s.gl e m, opd s.gl e k with
    | some m, some k => lookupA T t m k ok s
    | _, _ => none
  | .call { callee := .builtin b, args, argTypes } => match b, opds s.gl e args.toList, argTypes[0]? with
    | .len, some [x], some t => lenA T t x s
    | _, _, _ => none
  | _ => none

/-- an operation that writes memory -/
def loudA (T : Tys) (o : Op) (e : Env) (s : St) : Option (TV × St) :=
  match o with
  | .store t a x => match T.at t, opd s.gl e a, opd s.gl e x with
    | some i, some (.v (.ptr b off)), some v => match s.ownCells b, v.cells with
      | some cs, some xs => if xs.length = i.size ∧ off + xs.length ≤ cs.length then some (.tup [], s.put b ⟨true, .cells (cs.take off ++ xs ++ cs.drop (off + xs.length))⟩) else none
      | _, _ => none
    | _, _, _ => none
  | .mapUpdate t m k x | .insert t m k x => match opd s.gl e m, opd s.gl e k, opd s.gl e x with
    | some m, some k, some x => (updateA T t m k x s).map fun s' => (.tup [], s')
    | _, _, _ => none
  | .mapEntry t m k => match opd s.gl e m, opd s.gl e k with
    | some m, some k => entryA T t m k s
    | _, _ => none
  | .entryStore _ m st x => match opd s.gl e m, opd s.gl e st, opd s.gl e x with
    | some m, some st, some x => (storeA m st x s).map fun s' => (.tup [], s')
    | _, _, _ => none
  | .range t x => match T.kd t, opd s.gl e x with
    | some .str, some (.v (.str l)) => some (.v (.ptr s.next 0), s.new ⟨true, .siter l 0⟩)
    | some (.map _ _), some (.v (.map b)) => match s.get b with
      | some { own := true, k := .map es } => some (.v (.ptr s.next 0), s.new ⟨true, .miter b es.length []⟩)
      | _ => none
    | _, _ => none
  | .entry it => match opd s.gl e it with
    | some (.v (.ptr b 0)) => match s.get b with
      | some { own := true, k := .miter mb n seen } => match s.get mb, seen.getLast? with
        | some { own := true, k := .map es }, some i => if es.length = n then match es[i]? with
          | some p => some (.tup [(false, [p.1]), (false, [p.2])], s)
          | none => none else none
        | _, _ => none
      | _ => none
    | _ => none
  | .next it true => match opd s.gl e it with
    | some (.v (.ptr b 0)) => match s.get b with
      | some { own := true, k := .siter l p } =>
        if p < l.length then some (.tup [(false, [.bool true]), (false, [.int .i64 p]), (false, [.int .i32 (Utf8.decode ⟨l.toArray⟩ p).1])], s.put b ⟨true, .siter l (p + (Utf8.decode ⟨l.toArray⟩ p).2)⟩)
        else some (.tup [(false, [.bool false])], s)
      | _ => none
    | _ => none
  | .call { callee := .builtin .append, args, argTypes } => match opds s.gl e args.toList, argTypes[0]?, argTypes[1]? with
    | some [x, y], some t, some t' => match T.kd t' with
      | some .str => appendA T t x y s
      | some (.slice _) => appendA T t x y s
      | _ => none
    | _, _, _ => none
  | _ => none

/-- one operation, calls of Go functions aside -/
def stepOp (T : Tys) (o : Op) (e : Env) (s : St) : Option (TV × St) :=
  match clsOf o with
  | .pure => match pureA T s.gl o e with | some x => some (x, s) | none => none
  | .read => match readA T o e s with | some x => some (x, s) | none => none
  | .alloc => match allocA T s.gl o e with | some p => some (p.1 s.next, s.new ⟨true, p.2⟩) | none => none
  | .loud => loudA T o e s
end Go.Proofs.YtijkkgloennglaaGreatDoor.Ab
