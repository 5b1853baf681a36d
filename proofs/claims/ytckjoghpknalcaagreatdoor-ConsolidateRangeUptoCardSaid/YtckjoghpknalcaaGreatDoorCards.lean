/-
  DERIVED. GIVEN WITH THE SEED: THE CARDS: each row of YtckjoghpknalcaaGreatDoorRows.lean that lists a variable, with what it lists TIED to the program's text (the seventh form; the later family's looks); each row that meets fmt, with fmt's text TOLD by the authors' own Lean function (tested against real Go, not proved from fmt's source: count such statements apart). THE CARD IS WHAT COUNTS. Prove the row's statement (the work); the ties are given (YtckjoghpknalcaaGreatDoorTie.lean); close each card by the builder's one call (the guide's Derived/Test/ToyasCard.lean, 'card_holds'). Laid BY PROGRAM, IN A SANDBOX (cutbox-door.mjs). By AI agents, Wed Nov 11 2026. No macro, syntax, notation, axiom, sorry.
-/
import Derived.Test.YtckjoghpknalcaaGreatDoorRows
import GoSem.ClaimSeven
namespace Go.Proofs.YtckjoghpknalcaaGreatDoor
namespace Rows

/-- THE TIED CARD OF 'pandectlaw30.ConsolidateRange'. -/
def consolidateRangeCard : Claim7 := { stood := { row := consolidateRangeRow, standIns := [], harness := (true, "03a199e5878378f6ed9447d9808f13af4fb5779d6016e8d0f0e0f1af6a6686a3"), looks := false }, kinds := [], alts := [], laidByText := true, laidKinds := [.data, .data, .widerDeep, .funcs, .pinned], laidTests := true, laidLooks := .later }
def ConsolidateRangeCardSaid : Prop := Claim7.holds Tryz.pinned (.plain (OpenSpec.ofChange consolidateRangeSpec)) consolidateRangeCard

/-- THE SECOND FORM's CARD OF 'pandectlaw30.ConsolidateRange'. -/
def consolidateRangeUptoCard : Claim7 := { stood := { row := consolidateRangeUptoRow, standIns := [], harness := (true, "03a199e5878378f6ed9447d9808f13af4fb5779d6016e8d0f0e0f1af6a6686a3"), looks := false }, kinds := [], alts := [], laidByText := true, laidKinds := [.data, .data, .widerDeep, .funcs, .pinned], laidTests := true, laidLooks := .later }
def ConsolidateRangeUptoCardSaid : Prop := Claim7.holds Tryz.pinned (.plain (OpenSpec.upto consolidateRangeSpec)) consolidateRangeUptoCard
end Rows
end Go.Proofs.YtckjoghpknalcaaGreatDoor
