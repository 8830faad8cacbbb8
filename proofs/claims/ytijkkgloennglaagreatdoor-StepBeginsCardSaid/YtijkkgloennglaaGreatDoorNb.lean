/-
  What the document tells of the instructions behind one, worked out path by path. No condition.
-/
import Derived.Test.YtijkkgloennglaaGreatDoorNx
set_option linter.all false
set_option maxRecDepth 100000
namespace Go.Proofs.YtijkkgloennglaaGreatDoor.Ab
open Go Go.RowKit
/-- a list of instructions, as it came in -/
def Instrs (s : St) (x : AV) (l : List (List UInt8 × Int × List UInt8)) : Prop :=
  (slen x = some 0 ∧ l = []) ∨ ∃ b cap cs, x = .sl b 0 l.length 3 cap ∧ s.cells b = some cs ∧ b < s.next ∧ l.length * 3 ≤ cs.length ∧ ∀ (i : Nat) (p : List UInt8 × Int × List UInt8), l[i]? = some p → (cs.drop (i * 3)).take 3 = [.str p.1, .int .i64 p.2.1, .str p.2.2]
theorem Instrs.len {s : St} {x : AV} {l : List (List UInt8 × Int × List UInt8)} (h : Instrs s x l) : slen x = some l.length := by
  rcases h with ⟨h1, rfl⟩ | ⟨b, cap, cs, rfl, _⟩
  · exact h1
  · rfl
/-- an answer -/
def Ans (s s' : St) (o : Option (List Int)) (r : TV) : Prop :=
  s'.gl = s.gl ∧ (∀ b, b < s.next → s'.get b = s.get b) ∧ s.next ≤ s'.next ∧ match o with
  | none => ∃ x, r = .tup [(false, [x]), (false, [.bool false])] ∧ slen x = some 0
  | some l => ∃ x, r = .tup [(false, [x]), (false, [.bool true])] ∧ Ints s' x l
theorem at53 : tys.at 53 = some ⟨.struct [(0, 9), (1, 2), (2, 9)], 3, 40, [.str [], .int .i64 0, .str []]⟩ := rfl
theorem kd53 : tys.kd 53 = some (.struct [(0, 9), (1, 2), (2, 9)]) := rfl
theorem kd36 : tys.kd 36 = some (.slice 53) := rfl
theorem at9 : tys.at 9 = some ⟨.str, 1, 16, [.str []]⟩ := rfl
theorem at2 : tys.at 2 = some ⟨.int .i64, 1, 8, [.int .i64 0]⟩ := rfl
theorem at42 : tys.at 42 = some ⟨.slice 3, 1, 24, [.nils]⟩ := rfl
attribute [local simp] WL_cons WL_nil guardOk callOf stepOp clsOf pureA readA loudA allocA opd opds Env.get Env.put ofConst binA intBin unA strBin partsOf fillA zeros TV.cells TyI.wrap TyI.agg bnd
theorem n16_j1 {s : St} {l : List (List UInt8 × Int × List UInt8)} {k b : Nat} {cap : Option Nat} {cs : List AV} {op : List UInt8} {nn : Int} {ss : List UInt8} (hs : l.length ≤ 300) (hk : k < l.length) (hcs : s.cells b = some cs) (hbn : b < s.next) (hroom : l.length * 3 ≤ cs.length) (hcell : (cs.drop (k * 3)).take 3 = [.str op, .int .i64 nn, .str ss]) (ho : op = [106, 117, 109, 112]) (hn : nn < 0) :
    AC Tryz.prog 16 [.v (.sl b 0 l.length 3 cap), .v (.int .i64 k)] s (fun r s' => Ans s s' (none) r) := by
  subst ho
  refine ac_of_wc tys_ok hm fnis16 (by simp -implicitDefEqProofs [fr16]) ?_
  simp only [fr16, cc16]
  have hlen := fun s => lenA_sl (T := tys) (s := s) (t := 36) (e := 53) (x := .sl b 0 l.length 3 cap) rfl rfl
  have hb1 : b ≠ s.next := by omega
  have hb2 : b ≠ s.next + 1 := by omega
  have hb3 : b ≠ s.next + 2 := by omega
  have hroomk : k * 3 + 3 ≤ cs.length := by omega
  have hw : IntKind.i64.wrap ((k : Int) + 1) = (k : Int) + 1 := wrap_small (by omega) (by omega)
  repeat (first | rw [wc_ss] | rw [wc_assoc] | (refine wc_sct' ?_ ?h; case h => simp -implicitDefEqProofs [kd36, kd42, kd53, at53, at3, at9, at2, hk, hb1, hb2, hb3, hcs, hcell, hroomk, cells_new_eq, own_new_eq, cells_put_eq, own_put_eq, own_del_eq, cells_del_eq, binA, appendA, srcA, moreA, oldA, at42, hlen, hw, argEnv, hk, hn]) | (refine wc_scf' ?_ ?h; case h => simp -implicitDefEqProofs [kd36, kd42, kd53, at53, at3, at9, at2, hk, hb1, hb2, hb3, hcs, hcell, hroomk, cells_new_eq, own_new_eq, cells_put_eq, own_put_eq, own_del_eq, cells_del_eq, binA, appendA, srcA, moreA, oldA, at42, hlen, hw, argEnv, hk, hn]) | rw [wc_sret] | rw [WC_ret] | (rw [wc_sr]; simp -implicitDefEqProofs [kd36, kd42, kd53, at53, at3, at9, at2, hk, hb1, hb2, hb3, hcs, hcell, hroomk, cells_new_eq, own_new_eq, cells_put_eq, own_put_eq, own_del_eq, cells_del_eq, binA, appendA, srcA, moreA, oldA, at42, hlen, hw, argEnv, hk, hn]) | (rw [WC_reg]; simp -implicitDefEqProofs [kd36, kd42, kd53, at53, at3, at9, at2, hk, hb1, hb2, hb3, hcs, hcell, hroomk, cells_new_eq, own_new_eq, cells_put_eq, own_put_eq, own_del_eq, cells_del_eq, binA, appendA, srcA, moreA, oldA, at42, hlen, hw, argEnv, hk, hn]))
  simp -implicitDefEqProofs [Ends, resA, resAll, resOne, partAll, TV.part]
  refine ⟨rfl, fun b' hb' => by simp -implicitDefEqProofs [show b' ≠ s.next by omega, show b' ≠ s.next + 1 by omega, show b' ≠ s.next + 2 by omega, show b' ≠ s.next + 3 by omega, show b' ≠ s.next + 4 by omega, show b' ≠ s.next + 5 by omega], by simp -implicitDefEqProofs [St.next_new, St.next_put, St.next_del]; try omega, ?_⟩
  exact ⟨_, rfl, rfl⟩
theorem n16_j2 {s : St} {l : List (List UInt8 × Int × List UInt8)} {k b : Nat} {cap : Option Nat} {cs : List AV} {op : List UInt8} {nn : Int} {ss : List UInt8} (hs : l.length ≤ 300) (hk : k < l.length) (hcs : s.cells b = some cs) (hbn : b < s.next) (hroom : l.length * 3 ≤ cs.length) (hcell : (cs.drop (k * 3)).take 3 = [.str op, .int .i64 nn, .str ss]) (ho : op = [106, 117, 109, 112]) (hn : ¬ nn < 0) (hu : (l.length : Int) ≤ nn) :
    AC Tryz.prog 16 [.v (.sl b 0 l.length 3 cap), .v (.int .i64 k)] s (fun r s' => Ans s s' (none) r) := by
  subst ho
  refine ac_of_wc tys_ok hm fnis16 (by simp -implicitDefEqProofs [fr16]) ?_
  simp only [fr16, cc16]
  have hlen := fun s => lenA_sl (T := tys) (s := s) (t := 36) (e := 53) (x := .sl b 0 l.length 3 cap) rfl rfl
  have hb1 : b ≠ s.next := by omega
  have hb2 : b ≠ s.next + 1 := by omega
  have hb3 : b ≠ s.next + 2 := by omega
  have hroomk : k * 3 + 3 ≤ cs.length := by omega
  have hw : IntKind.i64.wrap ((k : Int) + 1) = (k : Int) + 1 := wrap_small (by omega) (by omega)
  repeat (first | rw [wc_ss] | rw [wc_assoc] | (refine wc_sct' ?_ ?h; case h => simp -implicitDefEqProofs [kd36, kd42, kd53, at53, at3, at9, at2, hk, hb1, hb2, hb3, hcs, hcell, hroomk, cells_new_eq, own_new_eq, cells_put_eq, own_put_eq, own_del_eq, cells_del_eq, binA, appendA, srcA, moreA, oldA, at42, hlen, hw, argEnv, hk, hn, hu]) | (refine wc_scf' ?_ ?h; case h => simp -implicitDefEqProofs [kd36, kd42, kd53, at53, at3, at9, at2, hk, hb1, hb2, hb3, hcs, hcell, hroomk, cells_new_eq, own_new_eq, cells_put_eq, own_put_eq, own_del_eq, cells_del_eq, binA, appendA, srcA, moreA, oldA, at42, hlen, hw, argEnv, hk, hn, hu]) | rw [wc_sret] | rw [WC_ret] | (rw [wc_sr]; simp -implicitDefEqProofs [kd36, kd42, kd53, at53, at3, at9, at2, hk, hb1, hb2, hb3, hcs, hcell, hroomk, cells_new_eq, own_new_eq, cells_put_eq, own_put_eq, own_del_eq, cells_del_eq, binA, appendA, srcA, moreA, oldA, at42, hlen, hw, argEnv, hk, hn, hu]) | (rw [WC_reg]; simp -implicitDefEqProofs [kd36, kd42, kd53, at53, at3, at9, at2, hk, hb1, hb2, hb3, hcs, hcell, hroomk, cells_new_eq, own_new_eq, cells_put_eq, own_put_eq, own_del_eq, cells_del_eq, binA, appendA, srcA, moreA, oldA, at42, hlen, hw, argEnv, hk, hn, hu]))
  simp -implicitDefEqProofs [Ends, resA, resAll, resOne, partAll, TV.part]
  refine ⟨rfl, fun b' hb' => by simp -implicitDefEqProofs [show b' ≠ s.next by omega, show b' ≠ s.next + 1 by omega, show b' ≠ s.next + 2 by omega, show b' ≠ s.next + 3 by omega, show b' ≠ s.next + 4 by omega, show b' ≠ s.next + 5 by omega], by simp -implicitDefEqProofs [St.next_new, St.next_put, St.next_del]; try omega, ?_⟩
  exact ⟨_, rfl, rfl⟩
theorem n16_j3 {s : St} {l : List (List UInt8 × Int × List UInt8)} {k b : Nat} {cap : Option Nat} {cs : List AV} {op : List UInt8} {nn : Int} {ss : List UInt8} (hs : l.length ≤ 300) (hk : k < l.length) (hcs : s.cells b = some cs) (hbn : b < s.next) (hroom : l.length * 3 ≤ cs.length) (hcell : (cs.drop (k * 3)).take 3 = [.str op, .int .i64 nn, .str ss]) (ho : op = [106, 117, 109, 112]) (hn : ¬ nn < 0) (hu : ¬ (l.length : Int) ≤ nn) :
    AC Tryz.prog 16 [.v (.sl b 0 l.length 3 cap), .v (.int .i64 k)] s (fun r s' => Ans s s' (some [nn]) r) := by
  subst ho
  refine ac_of_wc tys_ok hm fnis16 (by simp -implicitDefEqProofs [fr16]) ?_
  simp only [fr16, cc16]
  have hlen := fun s => lenA_sl (T := tys) (s := s) (t := 36) (e := 53) (x := .sl b 0 l.length 3 cap) rfl rfl
  have hb1 : b ≠ s.next := by omega
  have hb2 : b ≠ s.next + 1 := by omega
  have hb3 : b ≠ s.next + 2 := by omega
  have hroomk : k * 3 + 3 ≤ cs.length := by omega
  have hw : IntKind.i64.wrap ((k : Int) + 1) = (k : Int) + 1 := wrap_small (by omega) (by omega)
  repeat (first | rw [wc_ss] | rw [wc_assoc] | (refine wc_sct' ?_ ?h; case h => simp -implicitDefEqProofs [kd36, kd42, kd53, at53, at3, at9, at2, hk, hb1, hb2, hb3, hcs, hcell, hroomk, cells_new_eq, own_new_eq, cells_put_eq, own_put_eq, own_del_eq, cells_del_eq, binA, appendA, srcA, moreA, oldA, at42, hlen, hw, argEnv, hk, hn, hu]) | (refine wc_scf' ?_ ?h; case h => simp -implicitDefEqProofs [kd36, kd42, kd53, at53, at3, at9, at2, hk, hb1, hb2, hb3, hcs, hcell, hroomk, cells_new_eq, own_new_eq, cells_put_eq, own_put_eq, own_del_eq, cells_del_eq, binA, appendA, srcA, moreA, oldA, at42, hlen, hw, argEnv, hk, hn, hu]) | rw [wc_sret] | rw [WC_ret] | (rw [wc_sr]; simp -implicitDefEqProofs [kd36, kd42, kd53, at53, at3, at9, at2, hk, hb1, hb2, hb3, hcs, hcell, hroomk, cells_new_eq, own_new_eq, cells_put_eq, own_put_eq, own_del_eq, cells_del_eq, binA, appendA, srcA, moreA, oldA, at42, hlen, hw, argEnv, hk, hn, hu]) | (rw [WC_reg]; simp -implicitDefEqProofs [kd36, kd42, kd53, at53, at3, at9, at2, hk, hb1, hb2, hb3, hcs, hcell, hroomk, cells_new_eq, own_new_eq, cells_put_eq, own_put_eq, own_del_eq, cells_del_eq, binA, appendA, srcA, moreA, oldA, at42, hlen, hw, argEnv, hk, hn, hu]))
  simp -implicitDefEqProofs [Ends, resA, resAll, resOne, partAll, TV.part]
  refine ⟨rfl, fun b' hb' => by simp -implicitDefEqProofs [show b' ≠ s.next by omega, show b' ≠ s.next + 1 by omega, show b' ≠ s.next + 2 by omega, show b' ≠ s.next + 3 by omega, show b' ≠ s.next + 4 by omega, show b' ≠ s.next + 5 by omega], by simp -implicitDefEqProofs [St.next_new, St.next_put, St.next_del]; try omega, ?_⟩
  refine ⟨_, rfl, .inr ⟨_, _, _, _, rfl, by simp -implicitDefEqProofs [cells_new_eq, cells_put_eq, cells_del_eq]; rfl, by simp, fun i z hz => ?_⟩⟩
  exact match i, hz with
    | 0, hz => by simpa using hz
    | j + 1, hz => by simp at hz
theorem n16_b1 {s : St} {l : List (List UInt8 × Int × List UInt8)} {k b : Nat} {cap : Option Nat} {cs : List AV} {op : List UInt8} {nn : Int} {ss : List UInt8} (hs : l.length ≤ 300) (hk : k < l.length) (hcs : s.cells b = some cs) (hbn : b < s.next) (hroom : l.length * 3 ≤ cs.length) (hcell : (cs.drop (k * 3)).take 3 = [.str op, .int .i64 nn, .str ss]) (ho : op = [98, 114, 97, 110, 99, 104]) (hq : (l.length : Int) ≤ (k : Int) + 1) :
    AC Tryz.prog 16 [.v (.sl b 0 l.length 3 cap), .v (.int .i64 k)] s (fun r s' => Ans s s' (none) r) := by
  subst ho
  refine ac_of_wc tys_ok hm fnis16 (by simp -implicitDefEqProofs [fr16]) ?_
  simp only [fr16, cc16]
  have hlen := fun s => lenA_sl (T := tys) (s := s) (t := 36) (e := 53) (x := .sl b 0 l.length 3 cap) rfl rfl
  have hb1 : b ≠ s.next := by omega
  have hb2 : b ≠ s.next + 1 := by omega
  have hb3 : b ≠ s.next + 2 := by omega
  have hroomk : k * 3 + 3 ≤ cs.length := by omega
  have hw : IntKind.i64.wrap ((k : Int) + 1) = (k : Int) + 1 := wrap_small (by omega) (by omega)
  repeat (first | rw [wc_ss] | rw [wc_assoc] | (refine wc_sct' ?_ ?h; case h => simp -implicitDefEqProofs [kd36, kd42, kd53, at53, at3, at9, at2, hk, hb1, hb2, hb3, hcs, hcell, hroomk, cells_new_eq, own_new_eq, cells_put_eq, own_put_eq, own_del_eq, cells_del_eq, binA, appendA, srcA, moreA, oldA, at42, hlen, hw, argEnv, hk, hq]) | (refine wc_scf' ?_ ?h; case h => simp -implicitDefEqProofs [kd36, kd42, kd53, at53, at3, at9, at2, hk, hb1, hb2, hb3, hcs, hcell, hroomk, cells_new_eq, own_new_eq, cells_put_eq, own_put_eq, own_del_eq, cells_del_eq, binA, appendA, srcA, moreA, oldA, at42, hlen, hw, argEnv, hk, hq]) | rw [wc_sret] | rw [WC_ret] | (rw [wc_sr]; simp -implicitDefEqProofs [kd36, kd42, kd53, at53, at3, at9, at2, hk, hb1, hb2, hb3, hcs, hcell, hroomk, cells_new_eq, own_new_eq, cells_put_eq, own_put_eq, own_del_eq, cells_del_eq, binA, appendA, srcA, moreA, oldA, at42, hlen, hw, argEnv, hk, hq]) | (rw [WC_reg]; simp -implicitDefEqProofs [kd36, kd42, kd53, at53, at3, at9, at2, hk, hb1, hb2, hb3, hcs, hcell, hroomk, cells_new_eq, own_new_eq, cells_put_eq, own_put_eq, own_del_eq, cells_del_eq, binA, appendA, srcA, moreA, oldA, at42, hlen, hw, argEnv, hk, hq]))
  simp -implicitDefEqProofs [Ends, resA, resAll, resOne, partAll, TV.part]
  refine ⟨rfl, fun b' hb' => by simp -implicitDefEqProofs [show b' ≠ s.next by omega, show b' ≠ s.next + 1 by omega, show b' ≠ s.next + 2 by omega, show b' ≠ s.next + 3 by omega, show b' ≠ s.next + 4 by omega, show b' ≠ s.next + 5 by omega], by simp -implicitDefEqProofs [St.next_new, St.next_put, St.next_del]; try omega, ?_⟩
  exact ⟨_, rfl, rfl⟩
theorem n16_b2 {s : St} {l : List (List UInt8 × Int × List UInt8)} {k b : Nat} {cap : Option Nat} {cs : List AV} {op : List UInt8} {nn : Int} {ss : List UInt8} (hs : l.length ≤ 300) (hk : k < l.length) (hcs : s.cells b = some cs) (hbn : b < s.next) (hroom : l.length * 3 ≤ cs.length) (hcell : (cs.drop (k * 3)).take 3 = [.str op, .int .i64 nn, .str ss]) (ho : op = [98, 114, 97, 110, 99, 104]) (hq : ¬ (l.length : Int) ≤ (k : Int) + 1) (hn : nn < 0) :
    AC Tryz.prog 16 [.v (.sl b 0 l.length 3 cap), .v (.int .i64 k)] s (fun r s' => Ans s s' (none) r) := by
  subst ho
  refine ac_of_wc tys_ok hm fnis16 (by simp -implicitDefEqProofs [fr16]) ?_
  simp only [fr16, cc16]
  have hlen := fun s => lenA_sl (T := tys) (s := s) (t := 36) (e := 53) (x := .sl b 0 l.length 3 cap) rfl rfl
  have hb1 : b ≠ s.next := by omega
  have hb2 : b ≠ s.next + 1 := by omega
  have hb3 : b ≠ s.next + 2 := by omega
  have hroomk : k * 3 + 3 ≤ cs.length := by omega
  have hw : IntKind.i64.wrap ((k : Int) + 1) = (k : Int) + 1 := wrap_small (by omega) (by omega)
  repeat (first | rw [wc_ss] | rw [wc_assoc] | (refine wc_sct' ?_ ?h; case h => simp -implicitDefEqProofs [kd36, kd42, kd53, at53, at3, at9, at2, hk, hb1, hb2, hb3, hcs, hcell, hroomk, cells_new_eq, own_new_eq, cells_put_eq, own_put_eq, own_del_eq, cells_del_eq, binA, appendA, srcA, moreA, oldA, at42, hlen, hw, argEnv, hk, hq, hn]) | (refine wc_scf' ?_ ?h; case h => simp -implicitDefEqProofs [kd36, kd42, kd53, at53, at3, at9, at2, hk, hb1, hb2, hb3, hcs, hcell, hroomk, cells_new_eq, own_new_eq, cells_put_eq, own_put_eq, own_del_eq, cells_del_eq, binA, appendA, srcA, moreA, oldA, at42, hlen, hw, argEnv, hk, hq, hn]) | rw [wc_sret] | rw [WC_ret] | (rw [wc_sr]; simp -implicitDefEqProofs [kd36, kd42, kd53, at53, at3, at9, at2, hk, hb1, hb2, hb3, hcs, hcell, hroomk, cells_new_eq, own_new_eq, cells_put_eq, own_put_eq, own_del_eq, cells_del_eq, binA, appendA, srcA, moreA, oldA, at42, hlen, hw, argEnv, hk, hq, hn]) | (rw [WC_reg]; simp -implicitDefEqProofs [kd36, kd42, kd53, at53, at3, at9, at2, hk, hb1, hb2, hb3, hcs, hcell, hroomk, cells_new_eq, own_new_eq, cells_put_eq, own_put_eq, own_del_eq, cells_del_eq, binA, appendA, srcA, moreA, oldA, at42, hlen, hw, argEnv, hk, hq, hn]))
  simp -implicitDefEqProofs [Ends, resA, resAll, resOne, partAll, TV.part]
  refine ⟨rfl, fun b' hb' => by simp -implicitDefEqProofs [show b' ≠ s.next by omega, show b' ≠ s.next + 1 by omega, show b' ≠ s.next + 2 by omega, show b' ≠ s.next + 3 by omega, show b' ≠ s.next + 4 by omega, show b' ≠ s.next + 5 by omega], by simp -implicitDefEqProofs [St.next_new, St.next_put, St.next_del]; try omega, ?_⟩
  exact ⟨_, rfl, rfl⟩
theorem n16_b3 {s : St} {l : List (List UInt8 × Int × List UInt8)} {k b : Nat} {cap : Option Nat} {cs : List AV} {op : List UInt8} {nn : Int} {ss : List UInt8} (hs : l.length ≤ 300) (hk : k < l.length) (hcs : s.cells b = some cs) (hbn : b < s.next) (hroom : l.length * 3 ≤ cs.length) (hcell : (cs.drop (k * 3)).take 3 = [.str op, .int .i64 nn, .str ss]) (ho : op = [98, 114, 97, 110, 99, 104]) (hq : ¬ (l.length : Int) ≤ (k : Int) + 1) (hn : ¬ nn < 0) (hu : (l.length : Int) ≤ nn) :
    AC Tryz.prog 16 [.v (.sl b 0 l.length 3 cap), .v (.int .i64 k)] s (fun r s' => Ans s s' (none) r) := by
  subst ho
  refine ac_of_wc tys_ok hm fnis16 (by simp -implicitDefEqProofs [fr16]) ?_
  simp only [fr16, cc16]
  have hlen := fun s => lenA_sl (T := tys) (s := s) (t := 36) (e := 53) (x := .sl b 0 l.length 3 cap) rfl rfl
  have hb1 : b ≠ s.next := by omega
  have hb2 : b ≠ s.next + 1 := by omega
  have hb3 : b ≠ s.next + 2 := by omega
  have hroomk : k * 3 + 3 ≤ cs.length := by omega
  have hw : IntKind.i64.wrap ((k : Int) + 1) = (k : Int) + 1 := wrap_small (by omega) (by omega)
  repeat (first | rw [wc_ss] | rw [wc_assoc] | (refine wc_sct' ?_ ?h; case h => simp -implicitDefEqProofs [kd36, kd42, kd53, at53, at3, at9, at2, hk, hb1, hb2, hb3, hcs, hcell, hroomk, cells_new_eq, own_new_eq, cells_put_eq, own_put_eq, own_del_eq, cells_del_eq, binA, appendA, srcA, moreA, oldA, at42, hlen, hw, argEnv, hk, hq, hn, hu]) | (refine wc_scf' ?_ ?h; case h => simp -implicitDefEqProofs [kd36, kd42, kd53, at53, at3, at9, at2, hk, hb1, hb2, hb3, hcs, hcell, hroomk, cells_new_eq, own_new_eq, cells_put_eq, own_put_eq, own_del_eq, cells_del_eq, binA, appendA, srcA, moreA, oldA, at42, hlen, hw, argEnv, hk, hq, hn, hu]) | rw [wc_sret] | rw [WC_ret] | (rw [wc_sr]; simp -implicitDefEqProofs [kd36, kd42, kd53, at53, at3, at9, at2, hk, hb1, hb2, hb3, hcs, hcell, hroomk, cells_new_eq, own_new_eq, cells_put_eq, own_put_eq, own_del_eq, cells_del_eq, binA, appendA, srcA, moreA, oldA, at42, hlen, hw, argEnv, hk, hq, hn, hu]) | (rw [WC_reg]; simp -implicitDefEqProofs [kd36, kd42, kd53, at53, at3, at9, at2, hk, hb1, hb2, hb3, hcs, hcell, hroomk, cells_new_eq, own_new_eq, cells_put_eq, own_put_eq, own_del_eq, cells_del_eq, binA, appendA, srcA, moreA, oldA, at42, hlen, hw, argEnv, hk, hq, hn, hu]))
  simp -implicitDefEqProofs [Ends, resA, resAll, resOne, partAll, TV.part]
  refine ⟨rfl, fun b' hb' => by simp -implicitDefEqProofs [show b' ≠ s.next by omega, show b' ≠ s.next + 1 by omega, show b' ≠ s.next + 2 by omega, show b' ≠ s.next + 3 by omega, show b' ≠ s.next + 4 by omega, show b' ≠ s.next + 5 by omega], by simp -implicitDefEqProofs [St.next_new, St.next_put, St.next_del]; try omega, ?_⟩
  exact ⟨_, rfl, rfl⟩
theorem n16_b4 {s : St} {l : List (List UInt8 × Int × List UInt8)} {k b : Nat} {cap : Option Nat} {cs : List AV} {op : List UInt8} {nn : Int} {ss : List UInt8} (hs : l.length ≤ 300) (hk : k < l.length) (hcs : s.cells b = some cs) (hbn : b < s.next) (hroom : l.length * 3 ≤ cs.length) (hcell : (cs.drop (k * 3)).take 3 = [.str op, .int .i64 nn, .str ss]) (ho : op = [98, 114, 97, 110, 99, 104]) (hq : ¬ (l.length : Int) ≤ (k : Int) + 1) (hn : ¬ nn < 0) (hu : ¬ (l.length : Int) ≤ nn) :
    AC Tryz.prog 16 [.v (.sl b 0 l.length 3 cap), .v (.int .i64 k)] s (fun r s' => Ans s s' (some [(k : Int) + 1, nn]) r) := by
  subst ho
  refine ac_of_wc tys_ok hm fnis16 (by simp -implicitDefEqProofs [fr16]) ?_
  simp only [fr16, cc16]
  have hlen := fun s => lenA_sl (T := tys) (s := s) (t := 36) (e := 53) (x := .sl b 0 l.length 3 cap) rfl rfl
  have hb1 : b ≠ s.next := by omega
  have hb2 : b ≠ s.next + 1 := by omega
  have hb3 : b ≠ s.next + 2 := by omega
  have hroomk : k * 3 + 3 ≤ cs.length := by omega
  have hw : IntKind.i64.wrap ((k : Int) + 1) = (k : Int) + 1 := wrap_small (by omega) (by omega)
  repeat (first | rw [wc_ss] | rw [wc_assoc] | (refine wc_sct' ?_ ?h; case h => simp -implicitDefEqProofs [kd36, kd42, kd53, at53, at3, at9, at2, hk, hb1, hb2, hb3, hcs, hcell, hroomk, cells_new_eq, own_new_eq, cells_put_eq, own_put_eq, own_del_eq, cells_del_eq, binA, appendA, srcA, moreA, oldA, at42, hlen, hw, argEnv, hk, hq, hn, hu]) | (refine wc_scf' ?_ ?h; case h => simp -implicitDefEqProofs [kd36, kd42, kd53, at53, at3, at9, at2, hk, hb1, hb2, hb3, hcs, hcell, hroomk, cells_new_eq, own_new_eq, cells_put_eq, own_put_eq, own_del_eq, cells_del_eq, binA, appendA, srcA, moreA, oldA, at42, hlen, hw, argEnv, hk, hq, hn, hu]) | rw [wc_sret] | rw [WC_ret] | (rw [wc_sr]; simp -implicitDefEqProofs [kd36, kd42, kd53, at53, at3, at9, at2, hk, hb1, hb2, hb3, hcs, hcell, hroomk, cells_new_eq, own_new_eq, cells_put_eq, own_put_eq, own_del_eq, cells_del_eq, binA, appendA, srcA, moreA, oldA, at42, hlen, hw, argEnv, hk, hq, hn, hu]) | (rw [WC_reg]; simp -implicitDefEqProofs [kd36, kd42, kd53, at53, at3, at9, at2, hk, hb1, hb2, hb3, hcs, hcell, hroomk, cells_new_eq, own_new_eq, cells_put_eq, own_put_eq, own_del_eq, cells_del_eq, binA, appendA, srcA, moreA, oldA, at42, hlen, hw, argEnv, hk, hq, hn, hu]))
  simp -implicitDefEqProofs [Ends, resA, resAll, resOne, partAll, TV.part]
  refine ⟨rfl, fun b' hb' => by simp -implicitDefEqProofs [show b' ≠ s.next by omega, show b' ≠ s.next + 1 by omega, show b' ≠ s.next + 2 by omega, show b' ≠ s.next + 3 by omega, show b' ≠ s.next + 4 by omega, show b' ≠ s.next + 5 by omega], by simp -implicitDefEqProofs [St.next_new, St.next_put, St.next_del]; try omega, ?_⟩
  refine ⟨_, rfl, .inr ⟨_, _, _, _, rfl, by simp -implicitDefEqProofs [cells_new_eq, cells_put_eq, cells_del_eq]; rfl, by simp, fun i z hz => ?_⟩⟩
  exact match i, hz with
    | 0, hz => by simpa using hz
    | 1, hz => by simpa using hz
    | j + 2, hz => by simp at hz
theorem n16_r {s : St} {l : List (List UInt8 × Int × List UInt8)} {k b : Nat} {cap : Option Nat} {cs : List AV} {op : List UInt8} {nn : Int} {ss : List UInt8} (hs : l.length ≤ 300) (hk : k < l.length) (hcs : s.cells b = some cs) (hbn : b < s.next) (hroom : l.length * 3 ≤ cs.length) (hcell : (cs.drop (k * 3)).take 3 = [.str op, .int .i64 nn, .str ss]) (ho : op = [114, 101, 116, 117, 114, 110])  :
    AC Tryz.prog 16 [.v (.sl b 0 l.length 3 cap), .v (.int .i64 k)] s (fun r s' => Ans s s' (some []) r) := by
  subst ho
  refine ac_of_wc tys_ok hm fnis16 (by simp -implicitDefEqProofs [fr16]) ?_
  simp only [fr16, cc16]
  have hlen := fun s => lenA_sl (T := tys) (s := s) (t := 36) (e := 53) (x := .sl b 0 l.length 3 cap) rfl rfl
  have hb1 : b ≠ s.next := by omega
  have hb2 : b ≠ s.next + 1 := by omega
  have hb3 : b ≠ s.next + 2 := by omega
  have hroomk : k * 3 + 3 ≤ cs.length := by omega
  have hw : IntKind.i64.wrap ((k : Int) + 1) = (k : Int) + 1 := wrap_small (by omega) (by omega)
  repeat (first | rw [wc_ss] | rw [wc_assoc] | (refine wc_sct' ?_ ?h; case h => simp -implicitDefEqProofs [kd36, kd42, kd53, at53, at3, at9, at2, hk, hb1, hb2, hb3, hcs, hcell, hroomk, cells_new_eq, own_new_eq, cells_put_eq, own_put_eq, own_del_eq, cells_del_eq, binA, appendA, srcA, moreA, oldA, at42, hlen, hw, argEnv, hk]) | (refine wc_scf' ?_ ?h; case h => simp -implicitDefEqProofs [kd36, kd42, kd53, at53, at3, at9, at2, hk, hb1, hb2, hb3, hcs, hcell, hroomk, cells_new_eq, own_new_eq, cells_put_eq, own_put_eq, own_del_eq, cells_del_eq, binA, appendA, srcA, moreA, oldA, at42, hlen, hw, argEnv, hk]) | rw [wc_sret] | rw [WC_ret] | (rw [wc_sr]; simp -implicitDefEqProofs [kd36, kd42, kd53, at53, at3, at9, at2, hk, hb1, hb2, hb3, hcs, hcell, hroomk, cells_new_eq, own_new_eq, cells_put_eq, own_put_eq, own_del_eq, cells_del_eq, binA, appendA, srcA, moreA, oldA, at42, hlen, hw, argEnv, hk]) | (rw [WC_reg]; simp -implicitDefEqProofs [kd36, kd42, kd53, at53, at3, at9, at2, hk, hb1, hb2, hb3, hcs, hcell, hroomk, cells_new_eq, own_new_eq, cells_put_eq, own_put_eq, own_del_eq, cells_del_eq, binA, appendA, srcA, moreA, oldA, at42, hlen, hw, argEnv, hk]))
  simp -implicitDefEqProofs [Ends, resA, resAll, resOne, partAll, TV.part]
  refine ⟨rfl, fun b' hb' => by simp -implicitDefEqProofs [show b' ≠ s.next by omega, show b' ≠ s.next + 1 by omega, show b' ≠ s.next + 2 by omega, show b' ≠ s.next + 3 by omega, show b' ≠ s.next + 4 by omega, show b' ≠ s.next + 5 by omega], by simp -implicitDefEqProofs [St.next_new, St.next_put, St.next_del]; try omega, ?_⟩
  exact ⟨_, rfl, .inl ⟨rfl, rfl⟩⟩
theorem n16_t {s : St} {l : List (List UInt8 × Int × List UInt8)} {k b : Nat} {cap : Option Nat} {cs : List AV} {op : List UInt8} {nn : Int} {ss : List UInt8} (hs : l.length ≤ 300) (hk : k < l.length) (hcs : s.cells b = some cs) (hbn : b < s.next) (hroom : l.length * 3 ≤ cs.length) (hcell : (cs.drop (k * 3)).take 3 = [.str op, .int .i64 nn, .str ss]) (ho : op = [116, 104, 114, 111, 119])  :
    AC Tryz.prog 16 [.v (.sl b 0 l.length 3 cap), .v (.int .i64 k)] s (fun r s' => Ans s s' (some []) r) := by
  subst ho
  refine ac_of_wc tys_ok hm fnis16 (by simp -implicitDefEqProofs [fr16]) ?_
  simp only [fr16, cc16]
  have hlen := fun s => lenA_sl (T := tys) (s := s) (t := 36) (e := 53) (x := .sl b 0 l.length 3 cap) rfl rfl
  have hb1 : b ≠ s.next := by omega
  have hb2 : b ≠ s.next + 1 := by omega
  have hb3 : b ≠ s.next + 2 := by omega
  have hroomk : k * 3 + 3 ≤ cs.length := by omega
  have hw : IntKind.i64.wrap ((k : Int) + 1) = (k : Int) + 1 := wrap_small (by omega) (by omega)
  repeat (first | rw [wc_ss] | rw [wc_assoc] | (refine wc_sct' ?_ ?h; case h => simp -implicitDefEqProofs [kd36, kd42, kd53, at53, at3, at9, at2, hk, hb1, hb2, hb3, hcs, hcell, hroomk, cells_new_eq, own_new_eq, cells_put_eq, own_put_eq, own_del_eq, cells_del_eq, binA, appendA, srcA, moreA, oldA, at42, hlen, hw, argEnv, hk]) | (refine wc_scf' ?_ ?h; case h => simp -implicitDefEqProofs [kd36, kd42, kd53, at53, at3, at9, at2, hk, hb1, hb2, hb3, hcs, hcell, hroomk, cells_new_eq, own_new_eq, cells_put_eq, own_put_eq, own_del_eq, cells_del_eq, binA, appendA, srcA, moreA, oldA, at42, hlen, hw, argEnv, hk]) | rw [wc_sret] | rw [WC_ret] | (rw [wc_sr]; simp -implicitDefEqProofs [kd36, kd42, kd53, at53, at3, at9, at2, hk, hb1, hb2, hb3, hcs, hcell, hroomk, cells_new_eq, own_new_eq, cells_put_eq, own_put_eq, own_del_eq, cells_del_eq, binA, appendA, srcA, moreA, oldA, at42, hlen, hw, argEnv, hk]) | (rw [WC_reg]; simp -implicitDefEqProofs [kd36, kd42, kd53, at53, at3, at9, at2, hk, hb1, hb2, hb3, hcs, hcell, hroomk, cells_new_eq, own_new_eq, cells_put_eq, own_put_eq, own_del_eq, cells_del_eq, binA, appendA, srcA, moreA, oldA, at42, hlen, hw, argEnv, hk]))
  simp -implicitDefEqProofs [Ends, resA, resAll, resOne, partAll, TV.part]
  refine ⟨rfl, fun b' hb' => by simp -implicitDefEqProofs [show b' ≠ s.next by omega, show b' ≠ s.next + 1 by omega, show b' ≠ s.next + 2 by omega, show b' ≠ s.next + 3 by omega, show b' ≠ s.next + 4 by omega, show b' ≠ s.next + 5 by omega], by simp -implicitDefEqProofs [St.next_new, St.next_put, St.next_del]; try omega, ?_⟩
  exact ⟨_, rfl, .inl ⟨rfl, rfl⟩⟩
theorem n16_o1 {s : St} {l : List (List UInt8 × Int × List UInt8)} {k b : Nat} {cap : Option Nat} {cs : List AV} {op : List UInt8} {nn : Int} {ss : List UInt8} (hs : l.length ≤ 300) (hk : k < l.length) (hcs : s.cells b = some cs) (hbn : b < s.next) (hroom : l.length * 3 ≤ cs.length) (hcell : (cs.drop (k * 3)).take 3 = [.str op, .int .i64 nn, .str ss]) (hjump : (op == [106, 117, 109, 112]) = false) (hbranch : (op == [98, 114, 97, 110, 99, 104]) = false) (hret : (op == [114, 101, 116, 117, 114, 110]) = false) (hthrow_ : (op == [116, 104, 114, 111, 119]) = false) (hq : (l.length : Int) ≤ (k : Int) + 1) :
    AC Tryz.prog 16 [.v (.sl b 0 l.length 3 cap), .v (.int .i64 k)] s (fun r s' => Ans s s' (none) r) := by
  refine ac_of_wc tys_ok hm fnis16 (by simp -implicitDefEqProofs [fr16]) ?_
  simp only [fr16, cc16]
  have hlen := fun s => lenA_sl (T := tys) (s := s) (t := 36) (e := 53) (x := .sl b 0 l.length 3 cap) rfl rfl
  have hb1 : b ≠ s.next := by omega
  have hb2 : b ≠ s.next + 1 := by omega
  have hb3 : b ≠ s.next + 2 := by omega
  have hroomk : k * 3 + 3 ≤ cs.length := by omega
  have hw : IntKind.i64.wrap ((k : Int) + 1) = (k : Int) + 1 := wrap_small (by omega) (by omega)
  repeat (first | rw [wc_ss] | rw [wc_assoc] | (refine wc_sct' ?_ ?h; case h => simp -implicitDefEqProofs [kd36, kd42, kd53, at53, at3, at9, at2, hk, hb1, hb2, hb3, hcs, hcell, hroomk, cells_new_eq, own_new_eq, cells_put_eq, own_put_eq, own_del_eq, cells_del_eq, binA, appendA, srcA, moreA, oldA, at42, hlen, hw, argEnv, hk, hjump, hbranch, hret, hthrow_, hq]) | (refine wc_scf' ?_ ?h; case h => simp -implicitDefEqProofs [kd36, kd42, kd53, at53, at3, at9, at2, hk, hb1, hb2, hb3, hcs, hcell, hroomk, cells_new_eq, own_new_eq, cells_put_eq, own_put_eq, own_del_eq, cells_del_eq, binA, appendA, srcA, moreA, oldA, at42, hlen, hw, argEnv, hk, hjump, hbranch, hret, hthrow_, hq]) | rw [wc_sret] | rw [WC_ret] | (rw [wc_sr]; simp -implicitDefEqProofs [kd36, kd42, kd53, at53, at3, at9, at2, hk, hb1, hb2, hb3, hcs, hcell, hroomk, cells_new_eq, own_new_eq, cells_put_eq, own_put_eq, own_del_eq, cells_del_eq, binA, appendA, srcA, moreA, oldA, at42, hlen, hw, argEnv, hk, hjump, hbranch, hret, hthrow_, hq]) | (rw [WC_reg]; simp -implicitDefEqProofs [kd36, kd42, kd53, at53, at3, at9, at2, hk, hb1, hb2, hb3, hcs, hcell, hroomk, cells_new_eq, own_new_eq, cells_put_eq, own_put_eq, own_del_eq, cells_del_eq, binA, appendA, srcA, moreA, oldA, at42, hlen, hw, argEnv, hk, hjump, hbranch, hret, hthrow_, hq]))
  simp -implicitDefEqProofs [Ends, resA, resAll, resOne, partAll, TV.part]
  refine ⟨rfl, fun b' hb' => by simp -implicitDefEqProofs [show b' ≠ s.next by omega, show b' ≠ s.next + 1 by omega, show b' ≠ s.next + 2 by omega, show b' ≠ s.next + 3 by omega, show b' ≠ s.next + 4 by omega, show b' ≠ s.next + 5 by omega], by simp -implicitDefEqProofs [St.next_new, St.next_put, St.next_del]; try omega, ?_⟩
  exact ⟨_, rfl, rfl⟩
theorem n16_o2 {s : St} {l : List (List UInt8 × Int × List UInt8)} {k b : Nat} {cap : Option Nat} {cs : List AV} {op : List UInt8} {nn : Int} {ss : List UInt8} (hs : l.length ≤ 300) (hk : k < l.length) (hcs : s.cells b = some cs) (hbn : b < s.next) (hroom : l.length * 3 ≤ cs.length) (hcell : (cs.drop (k * 3)).take 3 = [.str op, .int .i64 nn, .str ss]) (hjump : (op == [106, 117, 109, 112]) = false) (hbranch : (op == [98, 114, 97, 110, 99, 104]) = false) (hret : (op == [114, 101, 116, 117, 114, 110]) = false) (hthrow_ : (op == [116, 104, 114, 111, 119]) = false) (hq : ¬ (l.length : Int) ≤ (k : Int) + 1) :
    AC Tryz.prog 16 [.v (.sl b 0 l.length 3 cap), .v (.int .i64 k)] s (fun r s' => Ans s s' (some [(k : Int) + 1]) r) := by
  refine ac_of_wc tys_ok hm fnis16 (by simp -implicitDefEqProofs [fr16]) ?_
  simp only [fr16, cc16]
  have hlen := fun s => lenA_sl (T := tys) (s := s) (t := 36) (e := 53) (x := .sl b 0 l.length 3 cap) rfl rfl
  have hb1 : b ≠ s.next := by omega
  have hb2 : b ≠ s.next + 1 := by omega
  have hb3 : b ≠ s.next + 2 := by omega
  have hroomk : k * 3 + 3 ≤ cs.length := by omega
  have hw : IntKind.i64.wrap ((k : Int) + 1) = (k : Int) + 1 := wrap_small (by omega) (by omega)
  repeat (first | rw [wc_ss] | rw [wc_assoc] | (refine wc_sct' ?_ ?h; case h => simp -implicitDefEqProofs [kd36, kd42, kd53, at53, at3, at9, at2, hk, hb1, hb2, hb3, hcs, hcell, hroomk, cells_new_eq, own_new_eq, cells_put_eq, own_put_eq, own_del_eq, cells_del_eq, binA, appendA, srcA, moreA, oldA, at42, hlen, hw, argEnv, hk, hjump, hbranch, hret, hthrow_, hq]) | (refine wc_scf' ?_ ?h; case h => simp -implicitDefEqProofs [kd36, kd42, kd53, at53, at3, at9, at2, hk, hb1, hb2, hb3, hcs, hcell, hroomk, cells_new_eq, own_new_eq, cells_put_eq, own_put_eq, own_del_eq, cells_del_eq, binA, appendA, srcA, moreA, oldA, at42, hlen, hw, argEnv, hk, hjump, hbranch, hret, hthrow_, hq]) | rw [wc_sret] | rw [WC_ret] | (rw [wc_sr]; simp -implicitDefEqProofs [kd36, kd42, kd53, at53, at3, at9, at2, hk, hb1, hb2, hb3, hcs, hcell, hroomk, cells_new_eq, own_new_eq, cells_put_eq, own_put_eq, own_del_eq, cells_del_eq, binA, appendA, srcA, moreA, oldA, at42, hlen, hw, argEnv, hk, hjump, hbranch, hret, hthrow_, hq]) | (rw [WC_reg]; simp -implicitDefEqProofs [kd36, kd42, kd53, at53, at3, at9, at2, hk, hb1, hb2, hb3, hcs, hcell, hroomk, cells_new_eq, own_new_eq, cells_put_eq, own_put_eq, own_del_eq, cells_del_eq, binA, appendA, srcA, moreA, oldA, at42, hlen, hw, argEnv, hk, hjump, hbranch, hret, hthrow_, hq]))
  simp -implicitDefEqProofs [Ends, resA, resAll, resOne, partAll, TV.part]
  refine ⟨rfl, fun b' hb' => by simp -implicitDefEqProofs [show b' ≠ s.next by omega, show b' ≠ s.next + 1 by omega, show b' ≠ s.next + 2 by omega, show b' ≠ s.next + 3 by omega, show b' ≠ s.next + 4 by omega, show b' ≠ s.next + 5 by omega], by simp -implicitDefEqProofs [St.next_new, St.next_put, St.next_del]; try omega, ?_⟩
  refine ⟨_, rfl, .inr ⟨_, _, _, _, rfl, by simp -implicitDefEqProofs [cells_new_eq, cells_put_eq, cells_del_eq]; rfl, by simp, fun i z hz => ?_⟩⟩
  exact match i, hz with
    | 0, hz => by simpa using hz
    | j + 1, hz => by simp at hz
end Go.Proofs.YtijkkgloennglaaGreatDoor.Ab
