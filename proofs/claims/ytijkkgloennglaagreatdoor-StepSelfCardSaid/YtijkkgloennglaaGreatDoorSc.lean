/-
  The tables of the law, in any memory. No condition.
-/
import Derived.Test.YtijkkgloennglaaGreatDoorSb
import Derived.Test.YtijkkgloennglaaGreatDoorAg
set_option linter.all false
set_option maxRecDepth 100000
namespace Go.Proofs.YtijkkgloennglaaGreatDoor.Ab
open Go Go.RowKit
def x6 : TV := .tup [(false, [.ptr 5 0]), (false, [.sl 16 0 12 8 none])]
def out6 : List Blk := [⟨true, .cells [.sl 6 0 12 8 none, .map 15]⟩, ⟨true, .cells [.str [79, 98, 106, 101, 99, 116], .str [], .nils, .bool false, .bool false, .bool false, .nils, .nils, .str [70, 97, 117, 108, 116], .str [79, 98, 106, 101, 99, 116], .nils, .bool false, .bool false, .bool false, .sl 7 0 1 3 (some 1), .nils, .str [78, 117, 108, 108, 70, 97, 117, 108, 116], .str [70, 97, 117, 108, 116], .nils, .bool false, .bool false, .bool true, .nils, .nils, .str [73, 110, 100, 101, 120, 70, 97, 117, 108, 116], .str [70, 97, 117, 108, 116], .nils, .bool false, .bool false, .bool true, .nils, .nils, .str [67, 97, 115, 116, 70, 97, 117, 108, 116], .str [70, 97, 117, 108, 116], .nils, .bool false, .bool false, .bool true, .nils, .nils, .str [90, 101, 114, 111, 70, 97, 117, 108, 116], .str [70, 97, 117, 108, 116], .nils, .bool false, .bool false, .bool true, .nils, .nils, .str [82, 111, 111, 109, 70, 97, 117, 108, 116], .str [70, 97, 117, 108, 116], .nils, .bool false, .bool false, .bool true, .nils, .nils, .str [67, 97, 108, 108, 70, 97, 117, 108, 116], .str [70, 97, 117, 108, 116], .nils, .bool false, .bool false, .bool true, .nils, .nils, .str [65], .str [79, 98, 106, 101, 99, 116], .nils, .bool false, .bool false, .bool false, .sl 8 0 2 3 none, .sl 9 0 2 7 none, .str [66], .str [65], .sl 13 0 1 1 none, .bool false, .bool false, .bool false, .sl 14 0 1 3 none, .nils, .str [73], .str [79, 98, 106, 101, 99, 116], .nils, .bool true, .bool true, .bool false, .nils, .nils, .str [68], .str [79, 98, 106, 101, 99, 116], .nils, .bool false, .bool true, .bool false, .nils, .nils]⟩, ⟨true, .cells [.str [119, 104, 97, 116], .str [116, 101, 120, 116], .bool false]⟩, ⟨true, .cells [.str [120], .str [105, 110, 116], .bool false, .str [110, 101, 120, 116], .str [65], .bool false]⟩, ⟨true, .cells [.str [102], .sl 10 0 2 1 none, .str [105, 110, 116], .bool false, .int .i64 3, .sl 11 0 2 3 none, .nils, .str [103], .nils, .str [], .bool false, .int .i64 1, .sl 12 0 1 3 none, .nils]⟩, ⟨true, .cells [.str [105, 110, 116], .str [65]]⟩, ⟨true, .cells [.str [105, 110, 116], .int .i64 1, .str [], .str [114, 101, 116, 117, 114, 110], .int .i64 0, .str []]⟩, ⟨true, .cells [.str [114, 101, 116, 117, 114, 110], .int .i64 0, .str []]⟩, ⟨true, .cells [.str [73]]⟩, ⟨true, .cells [.str [108], .str [65, 91, 93], .bool false]⟩, ⟨true, .map [(.str [79, 98, 106, 101, 99, 116], .int .i64 0), (.str [70, 97, 117, 108, 116], .int .i64 1), (.str [78, 117, 108, 108, 70, 97, 117, 108, 116], .int .i64 2), (.str [73, 110, 100, 101, 120, 70, 97, 117, 108, 116], .int .i64 3), (.str [67, 97, 115, 116, 70, 97, 117, 108, 116], .int .i64 4), (.str [90, 101, 114, 111, 70, 97, 117, 108, 116], .int .i64 5), (.str [82, 111, 111, 109, 70, 97, 117, 108, 116], .int .i64 6), (.str [67, 97, 108, 108, 70, 97, 117, 108, 116], .int .i64 7), (.str [65], .int .i64 8), (.str [66], .int .i64 9), (.str [73], .int .i64 10), (.str [68], .int .i64 11)]⟩, ⟨true, .cells [.str [79, 98, 106, 101, 99, 116], .str [], .nils, .bool false, .bool false, .bool false, .nils, .nils, .str [70, 97, 117, 108, 116], .str [79, 98, 106, 101, 99, 116], .nils, .bool false, .bool false, .bool false, .sl 17 0 1 3 (some 1), .nils, .str [78, 117, 108, 108, 70, 97, 117, 108, 116], .str [70, 97, 117, 108, 116], .nils, .bool false, .bool false, .bool true, .nils, .nils, .str [73, 110, 100, 101, 120, 70, 97, 117, 108, 116], .str [70, 97, 117, 108, 116], .nils, .bool false, .bool false, .bool true, .nils, .nils, .str [67, 97, 115, 116, 70, 97, 117, 108, 116], .str [70, 97, 117, 108, 116], .nils, .bool false, .bool false, .bool true, .nils, .nils, .str [90, 101, 114, 111, 70, 97, 117, 108, 116], .str [70, 97, 117, 108, 116], .nils, .bool false, .bool false, .bool true, .nils, .nils, .str [82, 111, 111, 109, 70, 97, 117, 108, 116], .str [70, 97, 117, 108, 116], .nils, .bool false, .bool false, .bool true, .nils, .nils, .str [67, 97, 108, 108, 70, 97, 117, 108, 116], .str [70, 97, 117, 108, 116], .nils, .bool false, .bool false, .bool true, .nils, .nils, .str [65], .str [79, 98, 106, 101, 99, 116], .nils, .bool false, .bool false, .bool false, .sl 18 0 2 3 (some 2), .sl 19 0 2 7 (some 2), .str [66], .str [65], .sl 23 0 1 1 (some 1), .bool false, .bool false, .bool false, .sl 24 0 1 3 (some 1), .nils, .str [73], .str [79, 98, 106, 101, 99, 116], .nils, .bool true, .bool true, .bool false, .nils, .nils, .str [68], .str [79, 98, 106, 101, 99, 116], .nils, .bool false, .bool true, .bool false, .nils, .nils]⟩, ⟨true, .cells [.str [119, 104, 97, 116], .str [116, 101, 120, 116], .bool false]⟩, ⟨true, .cells [.str [120], .str [105, 110, 116], .bool false, .str [110, 101, 120, 116], .str [65], .bool false]⟩, ⟨true, .cells [.str [102], .sl 20 0 2 1 (some 2), .str [105, 110, 116], .bool false, .int .i64 3, .sl 21 0 2 3 (some 2), .nils, .str [103], .nils, .str [], .bool false, .int .i64 1, .sl 22 0 1 3 (some 1), .nils]⟩, ⟨true, .cells [.str [105, 110, 116], .str [65]]⟩, ⟨true, .cells [.str [105, 110, 116], .int .i64 1, .str [], .str [114, 101, 116, 117, 114, 110], .int .i64 0, .str []]⟩, ⟨true, .cells [.str [114, 101, 116, 117, 114, 110], .int .i64 0, .str []]⟩, ⟨true, .cells [.str [73]]⟩, ⟨true, .cells [.str [108], .str [65, 91, 93], .bool false]⟩]
theorem run6 : outOf 5 [13, 14, 15, 16, 17, 18, 19, 20, 21, 22, 23, 32, 33, 25, 26, 27, 28, 29, 30, 31] (runF tys fns ovC 1000 50 6 [] g0) = some (x6, out6) := by kernel_rfl
theorem ac6 : AC Tryz.prog 6 [] g0 (fun y t => y = x6 ∧ t = g0.news out6) :=
  AC.told (fun _ _ h => runF_sound tys_ok hm fns_ok ovC_ok 1000 50 _ _ _ _ _ h) small0 (by kernel_rfl) (by kernel_rfl) (by kernel_rfl) run6
def names6 : List (List UInt8 × Int) := [([79, 98, 106, 101, 99, 116], 0), ([70, 97, 117, 108, 116], 1), ([78, 117, 108, 108, 70, 97, 117, 108, 116], 2), ([73, 110, 100, 101, 120, 70, 97, 117, 108, 116], 3), ([67, 97, 115, 116, 70, 97, 117, 108, 116], 4), ([90, 101, 114, 111, 70, 97, 117, 108, 116], 5), ([82, 111, 111, 109, 70, 97, 117, 108, 116], 6), ([67, 97, 108, 108, 70, 97, 117, 108, 116], 7), ([65], 8), ([66], 9), ([73], 10), ([68], 11)]
def tabO (n : Nat) : Option (List Blk) := outB (renOut (renId 5) 5 n (upTo 5 20)) (g0.news out6) (upTo 5 20)
theorem tabO_some (n : Nat) : (tabO n).isSome = true := by kernel_rfl
def tabB (n : Nat) : List Blk := (tabO n).getD []
theorem tabO_eq (n : Nat) : tabO n = some (tabB n) := by
  have h := tabO_some n
  unfold tabB
  cases ht : tabO n with
  | none => rw [ht] at h; cases h
  | some l => rfl
theorem tabB_0 (n : Nat) : (tabB n)[0]? = some ⟨true, .cells [.sl (n + 1) 0 12 8 none, .map (n + 10)]⟩ := by kernel_rfl
theorem tabB_10 (n : Nat) : (tabB n)[10]? = some ⟨true, .map (names6.map fun p => (.str p.1, .int .i64 p.2))⟩ := by kernel_rfl
theorem tabX (n : Nat) : x6.ren (renOut (renId 5) 5 n (upTo 5 20)) = some (.tup [(false, [.ptr n 0]), (false, [.sl (n + 11) 0 12 8 none])]) := by kernel_rfl
theorem news_keeps (s : St) (l : List Blk) : Keeps s (s.news l) := ⟨St.news_gl l s, fun b hb => St.news_old l s b hb, by rw [St.news_next]; omega⟩
theorem Fresh.news {s : St} (h : Fresh s) (l : List Blk) : Fresh (s.news l) := St.news_fresh l s h
theorem tables_in {s : St} (hf : Fresh s) (hgl : s.gl = 5) (hn : 5 ≤ s.next) (hk : ∀ b B, g0.get b = some B → s.get b = some B) :
    AC Tryz.prog 6 [] s (fun r t => ∃ y, r = .tup [(false, [.ptr s.next 0]), (false, [y])] ∧ Tab t s.next names6 ∧ Keeps s t ∧ Fresh t) := by
  have hh : Holds g0 (renId 5) s := by
    have hid : ∀ b c, renId 5 b = some c → b = c ∧ b < 5 := fun b c hc => by
      simp only [renId] at hc
      split at hc
      · rename_i hb; cases hc; exact ⟨rfl, Nat.le_of_ble_eq_true hb⟩
      · cases hc
    refine ⟨small0.ro, small0.fresh, by rw [hgl]; rfl, fun i hi => ?_, fun b c hc => ?_, fun b B c hB hc => ?_⟩
    · have : i < 5 := hi
      simp only [renId]; rw [if_pos]
      exact Nat.ble_eq_true_of_le this
    · obtain ⟨rfl, h2⟩ := hid b c hc; exact ⟨h2, by omega⟩
    · obtain ⟨rfl, h2⟩ := hid b c hc
      exact ⟨B.k, B.own, small0.closed b B hB, hk b B hB⟩
  have h := AC.ship (args := []) (args' := []) (s := s) ac6 hh rfl (L := upTo 5 20) upTo_ge upTo_nodup (tabX s.next) (tabO_eq s.next)
  refine h.mono ?_
  rintro r t ⟨rfl, rfl⟩
  refine ⟨_, rfl, ?_, news_keeps _ _, hf.news _⟩
  have hlen : 11 ≤ (tabB s.next).length := by
    have := (List.getElem?_eq_some_iff.1 (tabB_10 s.next)).1; omega
  refine ⟨.sl (s.next + 1) 0 12 8 none, s.next + 10, true, ?_, St.news_new _ _ _ _ (tabB_10 s.next), by rw [St.news_next]; omega, by rw [St.news_next]; omega⟩
  have := St.news_new _ s _ _ (tabB_0 s.next)
  rw [Nat.add_zero] at this
  unfold St.cells; rw [this]

attribute [local simp] WL_cons WL_nil guardOk callOf stepOp clsOf pureA readA loudA allocA opd opds Env.get Env.put ofConst binA intBin unA strBin partsOf fillA zeros TV.cells TyI.wrap TyI.agg bnd ofPart ptrVals
theorem sub55 {s : St} {tp : Nat} {ns : List (List UInt8 × Int)} {k : List UInt8} (hgl : s.gl = 5) (h : Tab s tp ns) (hk : k.length ≤ 1000) (hkd : kindB ns k = true) : AC Tryz.prog 55 [.v (.ptr tp 0), .v (.str k), .v (.str k)] s (fun r t => r = .v (.bool true) ∧ t = s) := by
  refine AC.clean ?_ rfl
  refine ac_of_wc tys_ok hm fnis55 (by simp [fr55]) ?_
  simp only [fr55, cc55]
  rw [wc_sr]; simp -implicitDefEqProofs [argEnv]
  have hk1 := Keeps.new s ⟨true, .cells [.str k]⟩
  have h1 := h.kept hk1
  rw [wc_sb, wc_sr]; simp -implicitDefEqProofs
  refine ac_det (kind9 (by simpa using hgl) h1 hk) ?_
  simp -implicitDefEqProofs [hkd, at9, cells_new_eq]
  refine ac_det (kind9 (by simpa using hgl) h1 hk) ?_
  simp -implicitDefEqProofs [hkd]
  rw [wc_cf (by simp), wc_sr]; simp -implicitDefEqProofs [at9, cells_new_eq]
  rw [wc_ct (by simp), wc_sr]; simp -implicitDefEqProofs
  rw [WC_ret]
  simp -implicitDefEqProofs [BlkK, Ends, resA, resAll, resOne]
  exact hk1
theorem join26 {s : St} {tp : Nat} {ns : List (List UInt8 × Int)} {k : List UInt8} (hgl : s.gl = 5) (h : Tab s tp ns) (hk : k.length ≤ 1000) (hkd : kindB ns k = true) : AC Tryz.prog 26 [.v (.ptr tp 0), .v (.str k), .v (.str k)] s (fun r t => r = .v (.str k) ∧ t = s) := by
  refine ac_of_wc tys_ok hm fnis26 (by simp [fr26]) ?_
  simp only [fr26, cc26]
  rw [wc_sr]; simp -implicitDefEqProofs [argEnv]
  rw [wc_sb, wc_sr]; simp -implicitDefEqProofs
  refine ac_det (sub55 hgl h hk hkd) ?_
  try simp -implicitDefEqProofs
  rw [wc_ct (by simp), wc_sr]; simp -implicitDefEqProofs
  rw [WC_ret]
  simp -implicitDefEqProofs [BlkK, Ends, resA, resAll, resOne]
/-- texts in a block made from a number on -/
def StrsN (n : Nat) (s : St) (x : AV) (l : List (List UInt8)) : Prop := (x = .nils ∧ l = []) ∨ ∃ b cap, x = .sl b 0 l.length 1 cap ∧ OwnS s b l ∧ n ≤ b
theorem StrsN.strs {n : Nat} {s : St} {x : AV} {l : List (List UInt8)} (h : StrsN n s x l) : Strs s x l := by
  rcases h with ⟨rfl, rfl⟩ | ⟨b, cap, rfl, h, _⟩
  · exact .inl ⟨.inl rfl, rfl⟩
  · have := h.strs (cap := cap) (Nat.le_refl _)
    rwa [List.take_length] at this
theorem StrsN.put {n : Nat} {s : St} {x : AV} {l : List (List UInt8)} (h : StrsN n s x l) {c : Nat} (hc : c < n) (B : Blk) : StrsN n (s.put c B) x l := by
  rcases h with h | ⟨b, cap, h1, h2, h3⟩
  · exact .inl h
  · exact .inr ⟨b, cap, h1, by unfold OwnS; rw [St.get_put, if_neg (by omega)]; exact h2, h3⟩
theorem StrsN.kept {n : Nat} {s t : St} {x : AV} {l : List (List UInt8)} (h : StrsN n s x l) (hf : Fresh s) (hk : Keeps s t) : StrsN n t x l := by
  rcases h with h | ⟨b, cap, h1, h2, h3⟩
  · exact .inl h
  · have : b < s.next := by
      apply Decidable.byContradiction; intro hn
      have := hf b (by omega); unfold OwnS at h2; rw [this] at h2; cases h2
    exact .inr ⟨b, cap, h1, by unfold OwnS; rw [hk.old b this]; exact h2, h3⟩
theorem StrsN.mono {n m : Nat} {s : St} {x : AV} {l : List (List UInt8)} (h : StrsN n s x l) (hm : m ≤ n) : StrsN m s x l := by
  rcases h with h | ⟨b, cap, h1, h2, h3⟩
  · exact .inl h
  · exact .inr ⟨b, cap, h1, h2, by omega⟩
theorem Strs.nil {s : St} {l : List (List UInt8)} (h : Strs s .nils l) : l = [] := by
  rcases h with ⟨_, h⟩ | ⟨b, off, cap, cs, h, _⟩
  · exact h
  · cases h
theorem Fresh.put {s : St} (h : Fresh s) {c : Nat} (hc : c < s.next) (B : Blk) : Fresh (s.put c B) := fun b hb => by
  simp at hb; rw [St.get_put, if_neg (by omega)]; exact h b hb
theorem clone46 {s : St} (hf : Fresh s) {x : AV} {l : List (List UInt8)} (hx : Strs s x l) (hl : l.length ≤ 1000) : AC Tryz.prog 46 [.v x] s (fun r t => ∃ y, r = .v y ∧ StrsN s.next t y l ∧ Keeps s t ∧ Fresh t) := by
  refine ac_of_wc tys_ok hm fnis46 (by simp [fr46]) ?_
  simp only [fr46, cc46]
  rw [wc_sr]; simp -implicitDefEqProofs [argEnv]
  by_cases hn : x = .nils
  · subst hn
    rw [wc_assoc, wc_sr]; simp -implicitDefEqProofs [at22, nilEq]
    rw [wc_sct (by simp), wc_assoc, wc_sr]; simp -implicitDefEqProofs
    rw [wc_sret]
    simp -implicitDefEqProofs [Ends, resA, resAll, resOne]
    exact ⟨.inl ⟨rfl, hx.nil⟩, .refl _, hf⟩
  · have hne : nilEq (.slice 9) x .nils = some false := by
      rcases hx with ⟨rfl | rfl, _⟩ | ⟨b, off, cap, cs, rfl, _⟩
      · exact absurd rfl hn
      · rfl
      · rfl
    have hb : binA tys .eql 22 (.v x) (.v .nils) = some (.v (.bool false)) := by
      rcases hx with ⟨rfl | rfl, _⟩ | ⟨b, off, cap, cs, rfl, _⟩
      · exact absurd rfl hn
      · simp [binA, at22, nilEq]
      · simp [binA, at22, nilEq]
    rw [wc_assoc, wc_sr]; simp -implicitDefEqProofs [at22, hne]
    rw [wc_scf (by simp), wc_ss, wc_sr]
    have hk := Keeps.new s ⟨true, .cells []⟩
    obtain ⟨b', cap', t', ha, ho, _, hk2, hn2, hg2, hf2, hb', _⟩ := append_strs (s := s.new ⟨true, .cells []⟩) (b := s.next) (cap := some 0) (l := []) (q := l) (y := x) (hf.new _) (by unfold OwnS; simp) (.inr rfl) (hx.kept hf hk) (by simp; omega)
    simp at ha ho
    simp -implicitDefEqProofs [kd22, at9, ha]
    rw [WC_ret]
    simp -implicitDefEqProofs [Ends, resA, resAll, resOne]
    refine ⟨.inr ⟨b', cap', rfl, ho, ?_⟩, ⟨hg2, fun c hc => (hk2 c (by simp; omega) (by omega)).trans (hk.old c hc), Nat.le_trans hk.next hn2⟩, hf2⟩
    rcases hb' with h | h
    · omega
    · rw [h]; simp
theorem cloned25 {s : St} (hf : Fresh s) {c : Bool} {x1 x2 : AV} {l1 l2 : List (List UInt8)} (h1 : Strs s x1 l1) (h2 : Strs s x2 l2) (b1 : l1.length ≤ 1000) (b2 : l2.length ≤ 1000) :
    AC Tryz.prog 25 [.agg [.bool c, x1, x2]] s (fun r t => ∃ y1 y2, r = .agg [.bool c, y1, y2] ∧ StrsN (s.next + 2) t y1 l1 ∧ StrsN (s.next + 2) t y2 l2 ∧ Keeps s t ∧ Fresh t) := by
  refine ac_of_wc tys_ok hm fnis25 (by simp [fr25]) ?_
  simp only [fr25, cc25]
  rw [wc_sr]; simp -implicitDefEqProofs [argEnv, at24]
  have hS := Bg.start hf [.bool c, x1, x2] [.bool false, .nils, .nils]
  revert hS
  generalize ((s.new ⟨true, .cells [.bool c, x1, x2]⟩).new ⟨true, .cells [.bool false, .nils, .nils]⟩) = S
  intro hS
  have hSn := hS.n
  rw [wc_sr]; simp -implicitDefEqProofs [kd24, at22, hS.mc]
  refine (clone46 hS.f (h1.kept hf hS.k) b1).mono ?_
  rintro r t ⟨y1, rfl, hy1, k1, f1⟩
  have hT : Bg s [.bool c, x1, x2] [.bool false, .nils, .nils] t := hS.step (fun c hc => k1.old c (by omega)) k1.next k1.gl f1
  simp -implicitDefEqProofs [kd24, at22, hT.mc]
  refine (clone46 f1 ((h2.kept hf hS.k).kept hS.f k1) b2).mono ?_
  rintro r u ⟨y2, rfl, hy2, k2, f2⟩
  have hU : Bg s [.bool c, x1, x2] [.bool false, .nils, .nils] u := hT.step (fun c hc => k2.old c (by have := k1.next; omega)) k2.next k2.gl f2
  have ho : u.ownCells s.next = some [.bool c, x1, x2] := by unfold St.ownCells; rw [hU.m]
  simp -implicitDefEqProofs [kd24, at22, ho, own_put_eq]
  rw [wc_sr]; simp -implicitDefEqProofs [at24, cells_put_eq, own_put_eq, hU.zo]
  rw [WC_ret]
  simp -implicitDefEqProofs [Ends, resA, resAll, resOne, at24, cells_put_eq]
  have e1 := ((((hy1.kept f1 k2).mono hSn).put (c := s.next) (by omega) ⟨true, .cells [.bool c, y1, x2]⟩).put (c := s.next) (by omega) ⟨true, .cells [.bool c, y1, y2]⟩).put (c := s.next + 1) (by omega) ⟨true, .cells [.bool c, y1, y2]⟩
  have e2 := (((hy2.mono (show s.next + 2 ≤ t.next by have := k1.next; omega)).put (c := s.next) (by omega) ⟨true, .cells [.bool c, y1, x2]⟩).put (c := s.next) (by omega) ⟨true, .cells [.bool c, y1, y2]⟩).put (c := s.next + 1) (by omega) ⟨true, .cells [.bool c, y1, y2]⟩
  have hun := hU.n
  refine ⟨y1, y2, ⟨rfl, rfl⟩, e1, e2, ⟨hU.k.gl, fun c hc => ?_, hU.k.next⟩, ((f2.put (by omega) _).put (by simp; omega) _).put (by simp; omega) _⟩
  rw [St.get_put, if_neg (by omega), St.get_put, if_neg (by omega), St.get_put, if_neg (by omega)]; exact hU.k.old c hc
end Go.Proofs.YtijkkgloennglaaGreatDoor.Ab
