/-
  strings.Join as the abstract machine knows it. No condition.
-/
import Derived.Test.YtijkkgloennglaaGreatDoorNx
import Derived.Test.YtijkkgloennglaaGreatDoorFw22
import Derived.Test.YtijkkgloennglaaGreatDoorJo
set_option linter.all false
set_option maxRecDepth 100000
namespace Go.Proofs.YtijkkgloennglaaGreatDoor.Ab
open Go Go.RowKit

/-- memory stays, but for what nobody knows of -/
theorem Rel.kept {base : Nat} {μ : Mu} {s : St} {w w' : World} (hr : Rel base μ s w.heap) (hb : Below w.heap.size w w') : Rel base μ s w'.heap ∧ Grow base μ s w μ s w' :=
  ⟨⟨fun b m hm => ⟨(hr.dom b m hm).1, Nat.lt_of_lt_of_le (hr.dom b m hm).2 hb.size⟩, fun b B m hb1 hm => BRel.mono (.refl μ) (hb.block _ (hr.dom b m hm).2) (hr.blk b B m hb1 hm), hr.own, hr.fresh, Nat.le_trans hr.base hb.size, hr.glob⟩,
   ⟨.refl μ, hb.mono hr.base, Nat.le_refl _, fun b _ h => ⟨h, rfl⟩, rfl⟩⟩
theorem Enterable.of {P : Program} {f : FuncId} {r : FR} (h : FnIs P f r) : Enterable P f := by
  obtain ⟨fn, c, kp, kp', h1, h2, h3, _⟩ := h.h
  exact ⟨fn, h1, by rw [h2]; rfl, h3⟩

def joinL : List (List UInt8) → List UInt8 → List UInt8
  | [], _ => []
  | [a], _ => a
  | a :: b :: r, s => a ++ (s ++ joinL (b :: r) s)
theorem joinL_eq (s : List UInt8) : ∀ (l : List (List UInt8)), Lib.join l s = joinL l s
  | [] => by simp [Lib.join, joinL]
  | [a] => by simp [Lib.join, joinL]
  | a :: b :: r => by
    have := joinL_eq s (b :: r)
    unfold Lib.join at this
    simp only [Lib.join, joinL, ← this, List.intercalate_cons_cons]
    try simp
def strsOf : List AV → Option (List (List UInt8))
  | [] => some []
  | .str l :: r => match strsOf r with | some q => some (l :: q) | none => none
  | _ => none
theorem strsOf_spec : ∀ {cs : List AV} {l : List (List UInt8)}, strsOf cs = some l → cs = l.map AV.str
  | [], l, h => by cases h; rfl
  | a :: r, l, h => by
    cases a with
    | str x =>
      simp only [strsOf] at h
      split at h
      · rename_i q hq; cases h; rw [strsOf_spec hq]; rfl
      · cases h
    | _ => cases h
theorem join_ac {s : St} {b off len : Nat} {cap : Option Nat} {sep : List UInt8} {cs : List AV} {l : List (List UInt8)} (hcs : s.cells b = some cs) (hroom : off + len ≤ cs.length) (hl : strsOf ((cs.drop off).take len) = some l) (h1 : l.length ≤ 140737488355328) (h2 : (joinL l sep).length ≤ 140737488355328) :
    AC Tryz.prog 137 [.v (.sl b off len 1 cap), .v (.str sep)] s (fun y t => y = .v (.str (joinL l sep)) ∧ t = s) := by
  refine ⟨.of fnis137, fun base μ w vs hr hv => ?_⟩
  have hl' := strsOf_spec hl
  have hlen : l.length = len := by
    have := congrArg List.length hl'
    simp only [List.length_take, List.length_drop, List.length_map] at this
    omega
  cases hv with
  | cons v1 hv =>
    cases hv with
    | cons v2 hv =>
      cases hv
      obtain ⟨m, o, c, hm, rfl, ho, hlc, _⟩ := v1
      cases v2
      have hB : ∃ B, s.get b = some B ∧ B.k = .cells cs := by
        unfold St.cells at hcs
        split at hcs
        · rename_i o1 k1 hg; cases hcs; exact ⟨_, hg, rfl⟩
        · cases hcs
      obtain ⟨B, hB1, hB2⟩ := hB
      have hbr := hr.blk b B m hB1 hm
      rw [hB2] at hbr
      obtain ⟨cc, tt, fr, g1, g2, g3, g4, _⟩ := hbr
      have hml := (hr.dom b m hm).2
      have key := Tryz.strings_Join m.blk o c (l.map fun x => (⟨x.toArray⟩ : ByteArray)) ⟨sep.toArray⟩ w (fun j x hj => by
        rw [List.getElem?_map] at hj
        cases hlj : l[j]? with
        | none => rw [hlj] at hj; cases hj
        | some y =>
          rw [hlj] at hj
          simp only [Option.map_some, Option.some.injEq] at hj
          subst hj
          have hjl := (List.getElem?_eq_some_iff.1 hlj).1
          have hcj : cs[off + j]? = some (.str y) := by
            have : ((cs.drop off).take len)[j]? = some (.str y) := by rw [hl', List.getElem?_map, hlj]; rfl
            rw [List.getElem?_take_of_lt (by omega), List.getElem?_drop] at this
            exact this
          obtain ⟨v, e1, e2⟩ := g4 (off + j) _ hcj
          cases e2
          rw [ho (by omega)]
          simp only [World.cell?, g1]
          rw [Nat.add_assoc, e1]; rfl) hml (by simpa using h1) (by simp; omega) (by
            have : (l.map fun x => (⟨x.toArray⟩ : ByteArray)).map (·.data.toList) = l := by rw [List.map_map]; exact List.map_id' l
            rw [this]
            show (Lib.join l sep).length ≤ _
            rw [joinL_eq]; exact h2)
      rw [List.length_map, hlen] at key
      refine key.mono ?_
      rintro e w' ⟨he, hb⟩
      have hll : (l.map fun x => (⟨x.toArray⟩ : ByteArray)).map (·.data.toList) = l := by rw [List.map_map]; exact List.map_id' l
      rw [hll] at he
      obtain ⟨k1, k2⟩ := hr.kept hb
      refine ⟨_, _, s, μ, he, ?_, ⟨rfl, rfl⟩, k1, k2⟩
      show Value.string ⟨(Lib.join l sep).toArray⟩ = .string ⟨(joinL l sep).toArray⟩
      rw [joinL_eq]
theorem join_none {s : St} {x : AV} {sep : List UInt8} (hx : x = .nils ∨ x = .emp) : AC Tryz.prog 137 [.v x, .v (.str sep)] s (fun y t => y = .v (.str []) ∧ t = s) := by
  refine ⟨.of fnis137, fun base μ w vs hr hv => ?_⟩
  cases hv with
  | @cons _ y _ _ v1 hv =>
    cases hv with
    | cons v2 hv =>
      cases hv
      cases v2
      have : ∃ a, y = Value.slice a 0 0 := by
        rcases hx with rfl | rfl
        · cases v1; exact ⟨none, rfl⟩
        · obtain ⟨a, rfl⟩ := v1; exact ⟨some a, rfl⟩
      obtain ⟨a, rfl⟩ := this
      refine (Tryz.strings_Join_none a 0 ⟨sep.toArray⟩ w).mono ?_
      rintro e w' ⟨he, rfl⟩
      exact ⟨_, .v (.str []), s, μ, he, rfl, ⟨rfl, rfl⟩, hr, .refl _ _ _ _⟩
def ovJoin : CallE := fun f args s => match f, args with
  | 137, [.v .nils, .v (.str _)] => some (.v (.str []), s)
  | 137, [.v .emp, .v (.str _)] => some (.v (.str []), s)
  | 137, [.v (.sl b off len 1 _), .v (.str sep)] => match s.cells b with
    | some cs => match strsOf ((cs.drop off).take len) with
      | some l => if off + len ≤ cs.length ∧ l.length ≤ 140737488355328 ∧ (joinL l sep).length ≤ 140737488355328 then some (.v (.str (joinL l sep)), s) else none
      | none => none
    | none => none
  | _, _ => none
theorem ovJoin_ok : CallOk Tryz.prog ovJoin := by
  intro f args s x s' h
  unfold ovJoin at h
  split at h
  · cases h; exact join_none (.inl rfl)
  · cases h; exact join_none (.inr rfl)
  · split at h
    · rename_i cs hcs
      split at h
      · rename_i l hl
        split at h
        · rename_i hb; cases h; exact join_ac hcs hb.1 hl hb.2.1 hb.2.2
        · cases h
      · cases h
    · cases h
  · cases h
end Go.Proofs.YtijkkgloennglaaGreatDoor.Ab
