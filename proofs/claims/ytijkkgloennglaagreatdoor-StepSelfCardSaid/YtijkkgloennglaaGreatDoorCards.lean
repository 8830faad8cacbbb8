/-
  DERIVED. GIVEN WITH THE SEED: THE CARDS: each row of YtijkkgloennglaaGreatDoorRows.lean that lists a variable, with what it lists TIED to the program's text (the seventh form; the later family's looks); each row that meets fmt, with fmt's text TOLD by the authors' own Lean function (tested against real Go, not proved from fmt's source: count such statements apart). THE CARD IS WHAT COUNTS. Prove the row's statement (the work); the ties are given (YtijkkgloennglaaGreatDoorTie.lean); close each card by the builder's one call (the guide's Derived/Test/ToyasCard.lean, 'card_holds'). Laid BY PROGRAM, IN A SANDBOX (cutbox-door.mjs). By AI agents, Wed Nov 11 2026. No macro, syntax, notation, axiom, sorry.
-/
import Derived.Test.YtijkkgloennglaaGreatDoorRows
import GoSem.ClaimSeven
namespace Go.Proofs.YtijkkgloennglaaGreatDoor
namespace Rows

/-- THE TIED CARD OF 'squinchlaw07.StepSelf'. -/
def stepSelfCard : Claim7 := { stood := { row := stepSelfRow, standIns := [], harness := (true, "0e617701e9f2f79a0df822e13bb5c01d59958fd830f80328fc55e008f76e2245"), looks := false }, kinds := [], alts := [], laidByText := true, laidKinds := [.data, .widerDeep, .data, .pinned], laidTests := true, laidLooks := .later }
def StepSelfCardSaid : Prop := Claim7.holds Tryz.pinned (.plain (OpenSpec.ofChange stepSelfSpec)) stepSelfCard

/-- THE TIED CARD OF 'squinchlaw07.StepBegins'. -/
def stepBeginsCard : Claim7 := { stood := { row := stepBeginsRow, standIns := [], harness := (true, "0e617701e9f2f79a0df822e13bb5c01d59958fd830f80328fc55e008f76e2245"), looks := false }, kinds := [], alts := [], laidByText := true, laidKinds := [.data, .widerDeep, .data, .pinned], laidTests := true, laidLooks := .later }
def StepBeginsCardSaid : Prop := Claim7.holds Tryz.pinned (.plain (OpenSpec.ofChange stepBeginsSpec)) stepBeginsCard

/-- THE TIED CARD OF 'squinchlaw07.StepNexts'. -/
def stepNextsCard : Claim7 := { stood := { row := stepNextsRow, standIns := [], harness := (true, "0e617701e9f2f79a0df822e13bb5c01d59958fd830f80328fc55e008f76e2245"), looks := false }, kinds := [], alts := [], laidByText := true, laidKinds := [.data, .widerDeep, .data, .pinned], laidTests := true, laidLooks := .later }
def StepNextsCardSaid : Prop := Claim7.holds Tryz.pinned (.plain (OpenSpec.ofChange stepNextsSpec)) stepNextsCard

/-- THE SECOND FORM's CARD OF 'squinchlaw07.StepSelf'. -/
def stepSelfUptoCard : Claim7 := { stood := { row := stepSelfUptoRow, standIns := [], harness := (true, "0e617701e9f2f79a0df822e13bb5c01d59958fd830f80328fc55e008f76e2245"), looks := false }, kinds := [], alts := [], laidByText := true, laidKinds := [.data, .widerDeep, .data, .pinned], laidTests := true, laidLooks := .later }
def StepSelfUptoCardSaid : Prop := Claim7.holds Tryz.pinned (.plain (OpenSpec.upto stepSelfSpec)) stepSelfUptoCard

/-- THE SECOND FORM's CARD OF 'squinchlaw07.StepBegins'. -/
def stepBeginsUptoCard : Claim7 := { stood := { row := stepBeginsUptoRow, standIns := [], harness := (true, "0e617701e9f2f79a0df822e13bb5c01d59958fd830f80328fc55e008f76e2245"), looks := false }, kinds := [], alts := [], laidByText := true, laidKinds := [.data, .widerDeep, .data, .pinned], laidTests := true, laidLooks := .later }
def StepBeginsUptoCardSaid : Prop := Claim7.holds Tryz.pinned (.plain (OpenSpec.upto stepBeginsSpec)) stepBeginsUptoCard

/-- THE SECOND FORM's CARD OF 'squinchlaw07.StepNexts'. -/
def stepNextsUptoCard : Claim7 := { stood := { row := stepNextsUptoRow, standIns := [], harness := (true, "0e617701e9f2f79a0df822e13bb5c01d59958fd830f80328fc55e008f76e2245"), looks := false }, kinds := [], alts := [], laidByText := true, laidKinds := [.data, .widerDeep, .data, .pinned], laidTests := true, laidLooks := .later }
def StepNextsUptoCardSaid : Prop := Claim7.holds Tryz.pinned (.plain (OpenSpec.upto stepNextsSpec)) stepNextsUptoCard
end Rows
end Go.Proofs.YtijkkgloennglaaGreatDoor
