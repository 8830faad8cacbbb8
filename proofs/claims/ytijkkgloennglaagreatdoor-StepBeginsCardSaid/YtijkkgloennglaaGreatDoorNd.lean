/-
  What may come behind an instruction: the program and the document answer alike. No condition.
-/
import Derived.Test.YtijkkgloennglaaGreatDoorNc
set_option linter.all false
set_option maxRecDepth 100000
namespace Go.Proofs.YtijkkgloennglaaGreatDoor.Ab
open Go Go.RowKit
/-- what may come behind an instruction -/
def nextS (l : List (List UInt8 × Int × List UInt8)) (z : Int) : Option (List Int) :=
  if z < 0 then none else match l[z.toNat]? with
    | none => none
    | some p =>
      if p.1 = [106, 117, 109, 112] then (if p.2.1 < 0 ∨ (l.length : Int) ≤ p.2.1 then none else some [p.2.1])
      else if p.1 = [98, 114, 97, 110, 99, 104] then (if (l.length : Int) ≤ z + 1 ∨ p.2.1 < 0 ∨ (l.length : Int) ≤ p.2.1 then none else some [z + 1, p.2.1])
      else if p.1 = [114, 101, 116, 117, 114, 110] ∨ p.1 = [116, 104, 114, 111, 119] then some []
      else if (l.length : Int) ≤ z + 1 then none else some [z + 1]

theorem next16 {s : St} {x : AV} {l : List (List UInt8 × Int × List UInt8)} {z : Int} (hl : Instrs s x l) (hs : l.length ≤ 300) : AC Tryz.prog 16 [.v x, .v (.int .i64 z)] s (fun r s' => Ans s s' (nextS l z) r) := by
  by_cases h0 : z < 0
  · have : nextS l z = none := by simp [nextS, h0]
    rw [this]; exact n16_lo hl.len h0
  by_cases h1 : (l.length : Int) ≤ z
  · have : nextS l z = none := by simp [nextS, h0, List.getElem?_eq_none (show l.length ≤ z.toNat by omega)]
    rw [this]; exact n16_hi hl.len h0 h1
  obtain ⟨k, rfl⟩ : ∃ k : Nat, z = k := ⟨z.toNat, by omega⟩
  have hk : k < l.length := by omega
  rcases hl with ⟨_, rfl⟩ | ⟨b, cap, cs, rfl, hcs, hbn, hroom, hat⟩
  · simp at hk
  have hk2 : l[k]? = some l[k] := by simp
  have hcell := hat k l[k] hk2
  generalize hp : l[k] = p at hcell hk2
  obtain ⟨op, nn, ss⟩ := p
  simp only at hcell
  have hN : nextS l k = if op = [106, 117, 109, 112] then (if nn < 0 ∨ (l.length : Int) ≤ nn then none else some [nn])
      else if op = [98, 114, 97, 110, 99, 104] then (if (l.length : Int) ≤ (k : Int) + 1 ∨ nn < 0 ∨ (l.length : Int) ≤ nn then none else some [(k : Int) + 1, nn])
      else if op = [114, 101, 116, 117, 114, 110] ∨ op = [116, 104, 114, 111, 119] then some []
      else if (l.length : Int) ≤ (k : Int) + 1 then none else some [(k : Int) + 1] := by
    unfold nextS; rw [if_neg h0]; simp [hk2]
  rw [hN]
  by_cases hj : op = [106, 117, 109, 112]
  · by_cases hn : nn < 0
    · simp only [hj, hn, if_true, true_or]; exact n16_j1 hs hk hcs hbn hroom hcell hj hn
    by_cases hu : (l.length : Int) ≤ nn
    · simp only [hj, hn, hu, if_true, or_true]; exact n16_j2 hs hk hcs hbn hroom hcell hj hn hu
    · simp only [hj, hn, hu, if_true, or_false, if_false]; exact n16_j3 hs hk hcs hbn hroom hcell hj hn hu
  by_cases hb : op = [98, 114, 97, 110, 99, 104]
  · rw [if_neg hj, if_pos hb]
    by_cases hq : (l.length : Int) ≤ (k : Int) + 1
    · rw [if_pos (.inl hq)]; exact n16_b1 hs hk hcs hbn hroom hcell hb hq
    by_cases hn : nn < 0
    · rw [if_pos (.inr (.inl hn))]; exact n16_b2 hs hk hcs hbn hroom hcell hb hq hn
    by_cases hu : (l.length : Int) ≤ nn
    · rw [if_pos (.inr (.inr hu))]; exact n16_b3 hs hk hcs hbn hroom hcell hb hq hn hu
    · rw [if_neg (by omega)]; exact n16_b4 hs hk hcs hbn hroom hcell hb hq hn hu
  rw [if_neg hj, if_neg hb]
  by_cases hr : op = [114, 101, 116, 117, 114, 110]
  · rw [if_pos (.inl hr)]; exact n16_r hs hk hcs hbn hroom hcell hr
  by_cases ht : op = [116, 104, 114, 111, 119]
  · rw [if_pos (.inr ht)]; exact n16_t hs hk hcs hbn hroom hcell ht
  rw [if_neg (by simp [hr, ht])]
  have e1 := beq_eq_false_iff_ne.2 hj
  have e2 := beq_eq_false_iff_ne.2 hb
  have e3 := beq_eq_false_iff_ne.2 hr
  have e4 := beq_eq_false_iff_ne.2 ht
  by_cases hq : (l.length : Int) ≤ (k : Int) + 1
  · rw [if_pos hq]; exact n16_o1 hs hk hcs hbn hroom hcell e1 e2 e3 e4 hq
  · rw [if_neg hq]; exact n16_o2 hs hk hcs hbn hroom hcell e1 e2 e3 e4 hq
theorem next15 {s : St} {x : AV} {l : List (List UInt8 × Int × List UInt8)} {z : Int} (hl : Instrs s x l) (hs : l.length ≤ 300) : AC Tryz.prog 15 [.v x, .v (.int .i64 z)] s (fun r s' => Ans s s' (nextS l z) r) := by
  by_cases h0 : z < 0
  · have : nextS l z = none := by simp [nextS, h0]
    rw [this]; exact n15_lo hl.len h0
  by_cases h1 : (l.length : Int) ≤ z
  · have : nextS l z = none := by simp [nextS, h0, List.getElem?_eq_none (show l.length ≤ z.toNat by omega)]
    rw [this]; exact n15_hi hl.len h0 h1
  obtain ⟨k, rfl⟩ : ∃ k : Nat, z = k := ⟨z.toNat, by omega⟩
  have hk : k < l.length := by omega
  rcases hl with ⟨_, rfl⟩ | ⟨b, cap, cs, rfl, hcs, hbn, hroom, hat⟩
  · simp at hk
  have hk2 : l[k]? = some l[k] := by simp
  have hcell := hat k l[k] hk2
  generalize hp : l[k] = p at hcell hk2
  obtain ⟨op, nn, ss⟩ := p
  simp only at hcell
  have hN : nextS l k = if op = [106, 117, 109, 112] then (if nn < 0 ∨ (l.length : Int) ≤ nn then none else some [nn])
      else if op = [98, 114, 97, 110, 99, 104] then (if (l.length : Int) ≤ (k : Int) + 1 ∨ nn < 0 ∨ (l.length : Int) ≤ nn then none else some [(k : Int) + 1, nn])
      else if op = [114, 101, 116, 117, 114, 110] ∨ op = [116, 104, 114, 111, 119] then some []
      else if (l.length : Int) ≤ (k : Int) + 1 then none else some [(k : Int) + 1] := by
    unfold nextS; rw [if_neg h0]; simp [hk2]
  rw [hN]
  by_cases hj : op = [106, 117, 109, 112]
  · by_cases hn : nn < 0
    · simp only [hj, hn, if_true, true_or]; exact n15_j1 hs hk hcs hbn hroom hcell hj hn
    by_cases hu : (l.length : Int) ≤ nn
    · simp only [hj, hn, hu, if_true, or_true]; exact n15_j2 hs hk hcs hbn hroom hcell hj hn hu
    · simp only [hj, hn, hu, if_true, or_false, if_false]; exact n15_j3 hs hk hcs hbn hroom hcell hj hn hu
  by_cases hb : op = [98, 114, 97, 110, 99, 104]
  · rw [if_neg hj, if_pos hb]
    by_cases hq : (l.length : Int) ≤ (k : Int) + 1
    · rw [if_pos (.inl hq)]
      by_cases hn : nn < 0
      · exact n15_b1a hs hk hcs hbn hroom hcell hb hq hn
      by_cases hu : (l.length : Int) ≤ nn
      · exact n15_b1b hs hk hcs hbn hroom hcell hb hq hn hu
      · exact n15_b1c hs hk hcs hbn hroom hcell hb hq hn hu
    by_cases hn : nn < 0
    · rw [if_pos (.inr (.inl hn))]; exact n15_b2 hs hk hcs hbn hroom hcell hb hq hn
    by_cases hu : (l.length : Int) ≤ nn
    · rw [if_pos (.inr (.inr hu))]; exact n15_b3 hs hk hcs hbn hroom hcell hb hq hn hu
    · rw [if_neg (by omega)]; exact n15_b4 hs hk hcs hbn hroom hcell hb hq hn hu
  rw [if_neg hj, if_neg hb]
  by_cases hr : op = [114, 101, 116, 117, 114, 110]
  · rw [if_pos (.inl hr)]; exact n15_r hs hk hcs hbn hroom hcell hr
  by_cases ht : op = [116, 104, 114, 111, 119]
  · rw [if_pos (.inr ht)]; exact n15_t hs hk hcs hbn hroom hcell ht
  rw [if_neg (by simp [hr, ht])]
  have e1 := beq_eq_false_iff_ne.2 hj
  have e2 := beq_eq_false_iff_ne.2 hb
  have e3 := beq_eq_false_iff_ne.2 hr
  have e4 := beq_eq_false_iff_ne.2 ht
  by_cases hq : (l.length : Int) ≤ (k : Int) + 1
  · rw [if_pos hq]; exact n15_o1 hs hk hcs hbn hroom hcell e1 e2 e3 e4 hq
  · rw [if_neg hq]; exact n15_o2 hs hk hcs hbn hroom hcell e1 e2 e3 e4 hq
end Go.Proofs.YtijkkgloennglaaGreatDoor.Ab
