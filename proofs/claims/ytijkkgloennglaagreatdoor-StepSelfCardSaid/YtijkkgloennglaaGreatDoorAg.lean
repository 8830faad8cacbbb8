/-
  THE ANCHOR: the chapter's examples come out as they should, in any memory. No condition.
-/
import Derived.Test.YtijkkgloennglaaGreatDoorAe
import Derived.Test.YtijkkgloennglaaGreatDoorAf
set_option linter.all false
set_option maxRecDepth 100000
namespace Go.Proofs.YtijkkgloennglaaGreatDoor.Ab
open Go Go.RowKit
def ovC : CallE := fun f args s => match f, args with
  | 18, [] => shipO [] g0 x18 out18 args s
  | 17, [_] => shipO [x18] gC x17 out17 args s
  | 19, [_] => shipO [x18] gC x19 out19 args s
  | _, _ => ovA f args s
theorem ovC_ok : CallOk Tryz.prog ovC := by
  intro f args s x s' h
  unfold ovC at h
  split at h
  · exact shipO_ok ac18 small0 h
  · exact shipO_ok ac17 smallC h
  · exact shipO_ok ac19 smallC h
  · exact ovA_ok _ _ _ _ _ h
theorem run7 : outOf 5 [] (runF tys fns ovC 1000 50 7 [] g0) = some (.v (.bool true), []) := by kernel_rfl
theorem ac7 : AC Tryz.prog 7 [] g0 (fun y t => y = .v (.bool true) ∧ t = g0.news []) :=
  AC.told (fun _ _ h => runF_sound tys_ok hm fns_ok ovC_ok 1000 50 _ _ _ _ _ h) small0 (by kernel_rfl) (by kernel_rfl) (by kernel_rfl) run7
end Go.Proofs.YtijkkgloennglaaGreatDoor.Ab
