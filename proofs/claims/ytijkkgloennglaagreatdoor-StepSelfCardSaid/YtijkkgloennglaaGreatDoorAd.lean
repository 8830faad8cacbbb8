/-
  The anchor's classes, and what is known of calls in it. No condition.
-/
import Derived.Test.YtijkkgloennglaaGreatDoorAc
import Derived.Test.YtijkkgloennglaaGreatDoorJn
import Derived.Test.YtijkkgloennglaaGreatDoorFw23
set_option linter.all false
set_option maxRecDepth 100000
namespace Go.Proofs.YtijkkgloennglaaGreatDoor.Ab
open Go Go.RowKit
def gFaults : List AV := [.str [78, 117, 108, 108, 70, 97, 117, 108, 116], .str [73, 110, 100, 101, 120, 70, 97, 117, 108, 116], .str [67, 97, 115, 116, 70, 97, 117, 108, 116], .str [90, 101, 114, 111, 70, 97, 117, 108, 116], .str [82, 111, 111, 109, 70, 97, 117, 108, 116], .str [67, 97, 108, 108, 70, 97, 117, 108, 116]]
def gOps : List AV := [.str [105, 110, 116], .bool true, .bool false, .str [116, 114, 117, 101], .bool false, .bool false, .str [102, 97, 108, 115, 101], .bool false, .bool false, .str [119, 111, 114, 100], .bool false, .bool true, .str [110, 117, 108, 108], .bool false, .bool false, .str [108, 111, 97, 100], .bool true, .bool false, .str [115, 116, 111, 114, 101], .bool true, .bool false, .str [112, 111, 112], .bool false, .bool false, .str [100, 117, 112], .bool false, .bool false, .str [115, 119, 97, 112], .bool false, .bool false, .str [97, 100, 100], .bool false, .bool false, .str [115, 117, 98], .bool false, .bool false, .str [109, 117, 108], .bool false, .bool false, .str [100, 105, 118], .bool false, .bool false, .str [114, 101, 109], .bool false, .bool false, .str [110, 101, 103], .bool false, .bool false, .str [108, 101, 115, 115], .bool false, .bool false, .str [115, 97, 109, 101], .bool false, .bool false, .str [110, 111, 116], .bool false, .bool false, .str [98, 111, 116, 104], .bool false, .bool false, .str [106, 111, 105, 110], .bool false, .bool false, .str [115, 105, 122, 101], .bool false, .bool false, .str [106, 117, 109, 112], .bool true, .bool false, .str [98, 114, 97, 110, 99, 104], .bool true, .bool false, .str [110, 101, 119], .bool false, .bool true, .str [103, 101, 116], .bool false, .bool true, .str [112, 117, 116], .bool false, .bool true, .str [99, 97, 108, 108], .bool false, .bool true, .str [97, 114, 114, 97, 121], .bool false, .bool true, .str [97, 116], .bool false, .bool false, .str [115, 101, 116], .bool false, .bool false, .str [105, 115], .bool false, .bool true, .str [99, 97, 115, 116], .bool false, .bool true, .str [114, 101, 116, 117, 114, 110], .bool false, .bool false, .str [116, 104, 114, 111, 119], .bool false, .bool false, .str [111, 117, 116], .bool false, .bool false, .str [101, 113, 117, 97, 108], .bool false, .bool false, .str [97, 110, 100], .bool false, .bool false, .str [111, 114], .bool false, .bool false, .str [120, 111, 114], .bool false, .bool false, .str [115, 104, 108], .bool false, .bool false, .str [115, 104, 114], .bool false, .bool false]

/-- what the listed variables hold -/
def gl07 : List (Nat × List AV) := [(0, gFaults), (4, gOps)]
def g0 : St := startSt 5 gl07
def x18 : TV := .v (.sl 5 0 4 8 (some 4))
def out18 : List Blk := [⟨true, .cells [.str [65], .str [79, 98, 106, 101, 99, 116], .nils, .bool false, .bool false, .bool false, .sl 6 0 2 3 (some 2), .sl 7 0 2 7 (some 2), .str [66], .str [65], .sl 11 0 1 1 (some 1), .bool false, .bool false, .bool false, .sl 12 0 1 3 (some 1), .nils, .str [73], .str [79, 98, 106, 101, 99, 116], .nils, .bool true, .bool true, .bool false, .nils, .nils, .str [68], .str [79, 98, 106, 101, 99, 116], .nils, .bool false, .bool true, .bool false, .nils, .nils]⟩, ⟨true, .cells [.str [120], .str [105, 110, 116], .bool false, .str [110, 101, 120, 116], .str [65], .bool false]⟩, ⟨true, .cells [.str [102], .sl 8 0 2 1 (some 2), .str [105, 110, 116], .bool false, .int .i64 (3), .sl 9 0 2 3 (some 2), .nils, .str [103], .nils, .str [], .bool false, .int .i64 (1), .sl 10 0 1 3 (some 1), .nils]⟩, ⟨true, .cells [.str [105, 110, 116], .str [65]]⟩, ⟨true, .cells [.str [105, 110, 116], .int .i64 (1), .str [], .str [114, 101, 116, 117, 114, 110], .int .i64 (0), .str []]⟩, ⟨true, .cells [.str [114, 101, 116, 117, 114, 110], .int .i64 (0), .str []]⟩, ⟨true, .cells [.str [73]]⟩, ⟨true, .cells [.str [108], .str [65, 91, 93], .bool false]⟩]
theorem run18 : outOf 5 [12, 6, 9, 7, 5, 8, 10, 11] (runF tys fns ovNo 1000 4 18 [] g0) = some (x18, out18) := by kernel_rfl
theorem small0 : Small g0 := smallAll_spec (by kernel_rfl)
theorem ac18 : AC Tryz.prog 18 [] g0 (fun y t => y = x18 ∧ t = g0.news out18) :=
  AC.told (fun _ _ h => runF_sound tys_ok hm fns_ok ovNo_ok 1000 4 _ _ _ _ _ h) small0 (by kernel_rfl) (by kernel_rfl) (by kernel_rfl) run18
/-- the classes' memory, to be read alone -/
def gC : St := g0.news (out18.map fun B => ⟨false, B.k⟩)
theorem smallC : Small gC := smallAll_spec (by kernel_rfl)
theorem smallBelow : Small gBelow := smallAll_spec (by kernel_rfl)
def ovA : CallE := fun f args s => match f with
  | 43 => shipO [.v (.sl 5 0 12 8 none)] gBelow (.v (.sl 11 0 12 1 none)) outBelow args s
  | 137 => ovJoin 137 args s
  | _ => none
theorem ovA_ok : CallOk Tryz.prog ovA := by
  intro f args s x s' h
  unfold ovA at h
  split at h
  · exact shipO_ok below_ac smallBelow h
  · exact ovJoin_ok _ _ _ _ _ h
  · cases h
def ovB : CallE := fun f args s => match f with
  | 38 => allO tys fns (runF tys fns ovA 1000 50) 1000 38 (.v (.int .i64 0)) args s
  | _ => ovA f args s
theorem ovB_ok : CallOk Tryz.prog ovB := by
  intro f args s x s' h
  unfold ovB at h
  split at h
  · exact allO_ok tys_ok hm fns_ok (runF_sound tys_ok hm fns_ok ovA_ok 1000 50) h
  · exact ovA_ok _ _ _ _ _ h
end Go.Proofs.YtijkkgloennglaaGreatDoor.Ab
