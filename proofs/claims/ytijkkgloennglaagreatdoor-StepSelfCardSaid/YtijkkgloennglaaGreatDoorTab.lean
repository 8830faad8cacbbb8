/-
  The table of the compiled functions. No condition.
-/
import Derived.Test.YtijkkgloennglaaGreatDoorTy
import Derived.Test.YtijkkgloennglaaGreatDoorCc0
import Derived.Test.YtijkkgloennglaaGreatDoorCc1
import Derived.Test.YtijkkgloennglaaGreatDoorCc2
set_option maxRecDepth 100000
namespace Go.Proofs.YtijkkgloennglaaGreatDoor.Ab
open Go Go.RowKit
def frs : List (Option FR) := [none, none, none, some fr3, some fr4, some fr5, some fr6, some fr7, some fr8, some fr9, some fr10, some fr11, some fr12, some fr13, some fr14, some fr15, some fr16, some fr17, some fr18, some fr19, some fr20, some fr21, some fr22, some fr23, some fr24, some fr25, some fr26, some fr27, some fr28, some fr29, some fr30, some fr31, some fr32, some fr33, some fr34, some fr35, some fr36, some fr37, some fr38, some fr39, some fr40, some fr41, some fr42, some fr43, some fr44, some fr45, some fr46, some fr47, some fr48, some fr49, some fr50, some fr51, some fr52, some fr53, some fr54, some fr55, some fr56, some fr57, some fr58, some fr59, some fr60, some fr61, some fr62, some fr63, some fr64, some fr65, some fr66, some fr67, some fr68, some fr69, some fr70, some fr71, some fr72, some fr73, some fr74, some fr75, some fr76, some fr77, some fr78, some fr79, some fr80, some fr81, some fr82, some fr83, some fr84, some fr85, some fr86, some fr87, some fr88, some fr89, some fr90, some fr91, some fr92, some fr93, some fr94, some fr95, some fr96, some fr97, some fr98, some fr99, some fr100, some fr101, some fr102, some fr103, some fr104, some fr105, some fr106, some fr107, some fr108, some fr109, some fr110, some fr111, some fr112, some fr113, some fr114, some fr115, some fr116, some fr117, some fr118, some fr119, some fr120, some fr121, some fr122, some fr123, some fr124, some fr125, some fr126, some fr127, some fr128, some fr129, some fr130, some fr131, some fr132, some fr133, some fr134, some fr135, some fr136, some fr137, some fr138, some fr139, some fr140, some fr141, some fr142, some fr143, some fr144, some fr145, some fr146, some fr147, some fr148, some fr149, some fr150, some fr151, some fr152, some fr153, some fr154, some fr155, some fr156, some fr157, some fr158, some fr159, some fr160, some fr161, some fr162, some fr163, some fr164, none, some fr166, some fr167, some fr168, some fr169, some fr170, some fr171, some fr172, some fr173, some fr174, some fr175, some fr176, some fr177, some fr178, some fr179, some fr180, some fr181, some fr182, some fr183, some fr184, some fr185, some fr186, some fr187, some fr188, some fr189, some fr190, some fr191, some fr192, some fr193, some fr194, some fr195, some fr196, some fr197, some fr198, none, some fr200, some fr201, some fr202, some fr203, some fr204, some fr205, some fr206, none, some fr208, some fr209, some fr210, some fr211, some fr212, some fr213, some fr214, some fr215, some fr216, some fr217, none, none, some fr220, some fr221, some fr222, some fr223, none, some fr225, some fr226, some fr227, some fr228, some fr229, some fr230, some fr231, some fr232, some fr233, some fr234, none, none, none, none, none, none, none, none, none, none, none, none, none, none, none, none, none, none, none, none, none, none, none, none, some fr259]
def fns (f : FuncId) : Option FR := (frs[f]?).getD none
def AllIs (P : Program) : Nat → List (Option FR) → Prop
  | _, [] => True
  | i, none :: l => AllIs P (i + 1) l
  | i, some r :: l => FnIs P i r ∧ AllIs P (i + 1) l
theorem allIs_get {P : Program} : ∀ (l : List (Option FR)) (i k : Nat) (r : FR), AllIs P i l → l[k]? = some (some r) → FnIs P (i + k) r
  | [], i, k, r, _, h => by simp at h
  | none :: l, i, 0, r, _, h => by simp at h
  | some x :: l, i, 0, r, h, e => by simp at e; subst e; exact h.1
  | none :: l, i, k + 1, r, h, e => by have := allIs_get l (i + 1) k r h (by simpa using e); rwa [show i + (k + 1) = i + 1 + k by omega]
  | some x :: l, i, k + 1, r, h, e => by have := allIs_get l (i + 1) k r h.2 (by simpa using e); rwa [show i + (k + 1) = i + 1 + k by omega]
theorem allIs : AllIs Tryz.prog 0 frs := ⟨fnis3, fnis4, fnis5, fnis6, fnis7, fnis8, fnis9, fnis10, fnis11, fnis12, fnis13, fnis14, fnis15, fnis16, fnis17, fnis18, fnis19, fnis20, fnis21, fnis22, fnis23, fnis24, fnis25, fnis26, fnis27, fnis28, fnis29, fnis30, fnis31, fnis32, fnis33, fnis34, fnis35, fnis36, fnis37, fnis38, fnis39, fnis40, fnis41, fnis42, fnis43, fnis44, fnis45, fnis46, fnis47, fnis48, fnis49, fnis50, fnis51, fnis52, fnis53, fnis54, fnis55, fnis56, fnis57, fnis58, fnis59, fnis60, fnis61, fnis62, fnis63, fnis64, fnis65, fnis66, fnis67, fnis68, fnis69, fnis70, fnis71, fnis72, fnis73, fnis74, fnis75, fnis76, fnis77, fnis78, fnis79, fnis80, fnis81, fnis82, fnis83, fnis84, fnis85, fnis86, fnis87, fnis88, fnis89, fnis90, fnis91, fnis92, fnis93, fnis94, fnis95, fnis96, fnis97, fnis98, fnis99, fnis100, fnis101, fnis102, fnis103, fnis104, fnis105, fnis106, fnis107, fnis108, fnis109, fnis110, fnis111, fnis112, fnis113, fnis114, fnis115, fnis116, fnis117, fnis118, fnis119, fnis120, fnis121, fnis122, fnis123, fnis124, fnis125, fnis126, fnis127, fnis128, fnis129, fnis130, fnis131, fnis132, fnis133, fnis134, fnis135, fnis136, fnis137, fnis138, fnis139, fnis140, fnis141, fnis142, fnis143, fnis144, fnis145, fnis146, fnis147, fnis148, fnis149, fnis150, fnis151, fnis152, fnis153, fnis154, fnis155, fnis156, fnis157, fnis158, fnis159, fnis160, fnis161, fnis162, fnis163, fnis164, fnis166, fnis167, fnis168, fnis169, fnis170, fnis171, fnis172, fnis173, fnis174, fnis175, fnis176, fnis177, fnis178, fnis179, fnis180, fnis181, fnis182, fnis183, fnis184, fnis185, fnis186, fnis187, fnis188, fnis189, fnis190, fnis191, fnis192, fnis193, fnis194, fnis195, fnis196, fnis197, fnis198, fnis200, fnis201, fnis202, fnis203, fnis204, fnis205, fnis206, fnis208, fnis209, fnis210, fnis211, fnis212, fnis213, fnis214, fnis215, fnis216, fnis217, fnis220, fnis221, fnis222, fnis223, fnis225, fnis226, fnis227, fnis228, fnis229, fnis230, fnis231, fnis232, fnis233, fnis234, fnis259, trivial⟩
theorem fns_ok (f : FuncId) (r : FR) (h : fns f = some r) : FnIs Tryz.prog f r := by
  unfold fns at h
  cases hf : frs[f]? with
  | none => rw [hf] at h; cases h
  | some o =>
    rw [hf] at h
    simp only [Option.getD_some] at h
    subst h
    have := allIs_get frs 0 f r allIs hf
    rwa [Nat.zero_add] at this
end Go.Proofs.YtijkkgloennglaaGreatDoor.Ab
