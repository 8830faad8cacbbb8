/-
  What may come behind an instruction: the program's answer and the document's, whole. No condition.
-/
import Derived.Test.YtijkkgloennglaaGreatDoorNa
set_option linter.all false
set_option maxRecDepth 100000
namespace Go.Proofs.YtijkkgloennglaaGreatDoor.Ab
open Go Go.RowKit
attribute [local simp] WL_cons WL_nil guardOk callOf stepOp clsOf pureA readA loudA allocA opd opds Env.get Env.put ofConst binA intBin unA strBin partsOf fillA zeros TV.cells TyI.wrap TyI.agg bnd
theorem n16_lo {s : St} {x : AV} {n : Nat} {z : Int} (hx : slen x = some n) (h : z < 0) : AC Tryz.prog 16 [.v x, .v (.int .i64 z)] s (fun r s' => Ans s s' none r) := by
  refine ac_of_wc tys_ok hm fnis16 (by simp -implicitDefEqProofs [fr16]) ?_
  simp only [fr16, cc16]
  have hlen := fun s => lenA_sl (T := tys) (s := s) (t := 36) (e := 53) (x := x) rfl hx
  have h0 : (z < 0) = True := by simp only [eq_iff_iff, iff_true]; omega
  repeat (first | rw [wc_ss] | rw [wc_assoc] | rw [wc_sb] | rw [blk_normal] | rw [WC_skip] | (refine wc_sct' ?_ ?h; case h => simp -implicitDefEqProofs [sliceA, boundA, d2, d3, d4, d5, e2, e3, e4, e5, at36, kd36, at42, cells_new_eq, own_new_eq, cells_put_eq, own_put_eq, binA, hlen, argEnv, h0]) | (refine wc_scf' ?_ ?h; case h => simp -implicitDefEqProofs [sliceA, boundA, d2, d3, d4, d5, e2, e3, e4, e5, at36, kd36, at42, cells_new_eq, own_new_eq, cells_put_eq, own_put_eq, binA, hlen, argEnv, h0]) | rw [wc_sret] | rw [WC_ret] | (rw [wc_sr]; simp -implicitDefEqProofs [sliceA, boundA, d2, d3, d4, d5, e2, e3, e4, e5, at36, kd36, at42, cells_new_eq, own_new_eq, cells_put_eq, own_put_eq, binA, hlen, argEnv, h0]))
  simp -implicitDefEqProofs [Ends, resA, resAll, resOne, partAll, TV.part]
  refine ⟨rfl, fun b' hb' => by simp -implicitDefEqProofs [show b' ≠ s.next by omega, show b' ≠ s.next + 1 by omega, show b' ≠ s.next + 2 by omega, show b' ≠ s.next + 3 by omega, show b' ≠ s.next + 4 by omega, show b' ≠ s.next + 5 by omega], by simp -implicitDefEqProofs [St.next_new, St.next_put, St.next_del]; try omega, ?_⟩
  exact ⟨_, rfl, rfl⟩
theorem n16_hi {s : St} {x : AV} {n : Nat} {z : Int} (hx : slen x = some n) (h : ¬ z < 0) (h2 : (n : Int) ≤ z) : AC Tryz.prog 16 [.v x, .v (.int .i64 z)] s (fun r s' => Ans s s' none r) := by
  refine ac_of_wc tys_ok hm fnis16 (by simp -implicitDefEqProofs [fr16]) ?_
  simp only [fr16, cc16]
  have hlen := fun s => lenA_sl (T := tys) (s := s) (t := 36) (e := 53) (x := x) rfl hx
  have h0 : (z < 0) = False := by simp only [eq_iff_iff, iff_false]; omega
  have h1 : ((n : Int) ≤ z) = True := by simp only [eq_iff_iff, iff_true]; omega
  repeat (first | rw [wc_ss] | rw [wc_assoc] | rw [wc_sb] | rw [blk_normal] | rw [WC_skip] | (refine wc_sct' ?_ ?h; case h => simp -implicitDefEqProofs [sliceA, boundA, d2, d3, d4, d5, e2, e3, e4, e5, at36, kd36, at42, cells_new_eq, own_new_eq, cells_put_eq, own_put_eq, binA, hlen, argEnv, h0, h1]) | (refine wc_scf' ?_ ?h; case h => simp -implicitDefEqProofs [sliceA, boundA, d2, d3, d4, d5, e2, e3, e4, e5, at36, kd36, at42, cells_new_eq, own_new_eq, cells_put_eq, own_put_eq, binA, hlen, argEnv, h0, h1]) | rw [wc_sret] | rw [WC_ret] | (rw [wc_sr]; simp -implicitDefEqProofs [sliceA, boundA, d2, d3, d4, d5, e2, e3, e4, e5, at36, kd36, at42, cells_new_eq, own_new_eq, cells_put_eq, own_put_eq, binA, hlen, argEnv, h0, h1]))
  simp -implicitDefEqProofs [Ends, resA, resAll, resOne, partAll, TV.part]
  refine ⟨rfl, fun b' hb' => by simp -implicitDefEqProofs [show b' ≠ s.next by omega, show b' ≠ s.next + 1 by omega, show b' ≠ s.next + 2 by omega, show b' ≠ s.next + 3 by omega, show b' ≠ s.next + 4 by omega, show b' ≠ s.next + 5 by omega], by simp -implicitDefEqProofs [St.next_new, St.next_put, St.next_del]; try omega, ?_⟩
  exact ⟨_, rfl, rfl⟩
theorem n15_lo {s : St} {x : AV} {n : Nat} {z : Int} (hx : slen x = some n) (h : z < 0) : AC Tryz.prog 15 [.v x, .v (.int .i64 z)] s (fun r s' => Ans s s' none r) := by
  refine ac_of_wc tys_ok hm fnis15 (by simp -implicitDefEqProofs [fr15]) ?_
  simp only [fr15, cc15]
  have hlen := fun s => lenA_sl (T := tys) (s := s) (t := 36) (e := 53) (x := x) rfl hx
  have h0 : (z < 0) = True := by simp only [eq_iff_iff, iff_true]; omega
  repeat (first | rw [wc_ss] | rw [wc_assoc] | rw [wc_sb] | rw [blk_normal] | rw [WC_skip] | (refine wc_sct' ?_ ?h; case h => simp -implicitDefEqProofs [sliceA, boundA, d2, d3, d4, d5, e2, e3, e4, e5, at36, kd36, at42, cells_new_eq, own_new_eq, cells_put_eq, own_put_eq, binA, hlen, argEnv, h0]) | (refine wc_scf' ?_ ?h; case h => simp -implicitDefEqProofs [sliceA, boundA, d2, d3, d4, d5, e2, e3, e4, e5, at36, kd36, at42, cells_new_eq, own_new_eq, cells_put_eq, own_put_eq, binA, hlen, argEnv, h0]) | rw [wc_sret] | rw [WC_ret] | (rw [wc_sr]; simp -implicitDefEqProofs [sliceA, boundA, d2, d3, d4, d5, e2, e3, e4, e5, at36, kd36, at42, cells_new_eq, own_new_eq, cells_put_eq, own_put_eq, binA, hlen, argEnv, h0]))
  simp -implicitDefEqProofs [Ends, resA, resAll, resOne, partAll, TV.part]
  refine ⟨rfl, fun b' hb' => by simp -implicitDefEqProofs [show b' ≠ s.next by omega, show b' ≠ s.next + 1 by omega, show b' ≠ s.next + 2 by omega, show b' ≠ s.next + 3 by omega, show b' ≠ s.next + 4 by omega, show b' ≠ s.next + 5 by omega], by simp -implicitDefEqProofs [St.next_new, St.next_put, St.next_del]; try omega, ?_⟩
  exact ⟨_, rfl, rfl⟩
theorem n15_hi {s : St} {x : AV} {n : Nat} {z : Int} (hx : slen x = some n) (h : ¬ z < 0) (h2 : (n : Int) ≤ z) : AC Tryz.prog 15 [.v x, .v (.int .i64 z)] s (fun r s' => Ans s s' none r) := by
  refine ac_of_wc tys_ok hm fnis15 (by simp -implicitDefEqProofs [fr15]) ?_
  simp only [fr15, cc15]
  have hlen := fun s => lenA_sl (T := tys) (s := s) (t := 36) (e := 53) (x := x) rfl hx
  have h0 : (z < 0) = False := by simp only [eq_iff_iff, iff_false]; omega
  have h1 : ((n : Int) ≤ z) = True := by simp only [eq_iff_iff, iff_true]; omega
  repeat (first | rw [wc_ss] | rw [wc_assoc] | rw [wc_sb] | rw [blk_normal] | rw [WC_skip] | (refine wc_sct' ?_ ?h; case h => simp -implicitDefEqProofs [sliceA, boundA, d2, d3, d4, d5, e2, e3, e4, e5, at36, kd36, at42, cells_new_eq, own_new_eq, cells_put_eq, own_put_eq, binA, hlen, argEnv, h0, h1]) | (refine wc_scf' ?_ ?h; case h => simp -implicitDefEqProofs [sliceA, boundA, d2, d3, d4, d5, e2, e3, e4, e5, at36, kd36, at42, cells_new_eq, own_new_eq, cells_put_eq, own_put_eq, binA, hlen, argEnv, h0, h1]) | rw [wc_sret] | rw [WC_ret] | (rw [wc_sr]; simp -implicitDefEqProofs [sliceA, boundA, d2, d3, d4, d5, e2, e3, e4, e5, at36, kd36, at42, cells_new_eq, own_new_eq, cells_put_eq, own_put_eq, binA, hlen, argEnv, h0, h1]))
  simp -implicitDefEqProofs [Ends, resA, resAll, resOne, partAll, TV.part]
  refine ⟨rfl, fun b' hb' => by simp -implicitDefEqProofs [show b' ≠ s.next by omega, show b' ≠ s.next + 1 by omega, show b' ≠ s.next + 2 by omega, show b' ≠ s.next + 3 by omega, show b' ≠ s.next + 4 by omega, show b' ≠ s.next + 5 by omega], by simp -implicitDefEqProofs [St.next_new, St.next_put, St.next_del]; try omega, ?_⟩
  exact ⟨_, rfl, rfl⟩
end Go.Proofs.YtijkkgloennglaaGreatDoor.Ab
