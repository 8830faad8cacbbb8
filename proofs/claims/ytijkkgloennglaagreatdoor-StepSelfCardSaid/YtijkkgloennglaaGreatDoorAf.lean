/-
  The document's list of the classes of the anchor: run once. No condition.
-/
import Derived.Test.YtijkkgloennglaaGreatDoorAd
set_option linter.all false
set_option maxRecDepth 100000
namespace Go.Proofs.YtijkkgloennglaaGreatDoor.Ab
open Go Go.RowKit
def x19 : TV := .tup [(false, [.sl 13 0 12 8 none]), (false, [.int .i64 0]), (false, [.int .i64 0])]
def out19 : List Blk := [⟨true, .cells [.str [79, 98, 106, 101, 99, 116], .str [], .nils, .bool false, .bool false, .bool false, .nils, .nils, .str [70, 97, 117, 108, 116], .str [79, 98, 106, 101, 99, 116], .nils, .bool false, .bool false, .bool false, .sl 14 0 1 3 (some 1), .nils, .str [78, 117, 108, 108, 70, 97, 117, 108, 116], .str [70, 97, 117, 108, 116], .nils, .bool false, .bool false, .bool true, .nils, .nils, .str [73, 110, 100, 101, 120, 70, 97, 117, 108, 116], .str [70, 97, 117, 108, 116], .nils, .bool false, .bool false, .bool true, .nils, .nils, .str [67, 97, 115, 116, 70, 97, 117, 108, 116], .str [70, 97, 117, 108, 116], .nils, .bool false, .bool false, .bool true, .nils, .nils, .str [90, 101, 114, 111, 70, 97, 117, 108, 116], .str [70, 97, 117, 108, 116], .nils, .bool false, .bool false, .bool true, .nils, .nils, .str [82, 111, 111, 109, 70, 97, 117, 108, 116], .str [70, 97, 117, 108, 116], .nils, .bool false, .bool false, .bool true, .nils, .nils, .str [67, 97, 108, 108, 70, 97, 117, 108, 116], .str [70, 97, 117, 108, 116], .nils, .bool false, .bool false, .bool true, .nils, .nils, .str [65], .str [79, 98, 106, 101, 99, 116], .nils, .bool false, .bool false, .bool false, .sl 6 0 2 3 (some 2), .sl 7 0 2 7 (some 2), .str [66], .str [65], .sl 11 0 1 1 (some 1), .bool false, .bool false, .bool false, .sl 12 0 1 3 (some 1), .nils, .str [73], .str [79, 98, 106, 101, 99, 116], .nils, .bool true, .bool true, .bool false, .nils, .nils, .str [68], .str [79, 98, 106, 101, 99, 116], .nils, .bool false, .bool true, .bool false, .nils, .nils]⟩, ⟨true, .cells [.str [119, 104, 97, 116], .str [116, 101, 120, 116], .bool false]⟩]
theorem run19 : outOf 13 [58, 13] (runF tys fns ovB 1000 50 19 [x18] gC) = some (x19, out19) := by kernel_rfl
theorem ac19 : AC Tryz.prog 19 [x18] gC (fun y t => y = x19 ∧ t = gC.news out19) :=
  AC.told (fun _ _ h => runF_sound tys_ok hm fns_ok ovB_ok 1000 50 _ _ _ _ _ h) smallC (by kernel_rfl) (by kernel_rfl) (by kernel_rfl) run19
end Go.Proofs.YtijkkgloennglaaGreatDoor.Ab
