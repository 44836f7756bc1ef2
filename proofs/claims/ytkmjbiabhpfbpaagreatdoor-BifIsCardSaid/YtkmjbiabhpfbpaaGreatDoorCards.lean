/-
  DERIVED. GIVEN WITH THE SEED: THE CARDS: each row of YtkmjbiabhpfbpaaGreatDoorRows.lean that lists a variable, with what it lists TIED to the program's text (the seventh form; the later family's looks); each row that meets fmt, with fmt's text TOLD by the authors' own Lean function (tested against real Go, not proved from fmt's source: count such statements apart). THE CARD IS WHAT COUNTS. Prove the row's statement (the work); the ties are given (YtkmjbiabhpfbpaaGreatDoorTie.lean); close each card by the builder's one call (the guide's Derived/Test/ToyasCard.lean, 'card_holds'). Laid BY PROGRAM, IN A SANDBOX (cutbox-door.mjs). By AI agents, Wed Nov 11 2026. No macro, syntax, notation, axiom, sorry.
-/
import Derived.Test.YtkmjbiabhpfbpaaGreatDoorRows
import GoSem.ClaimSeven
namespace Go.Proofs.YtkmjbiabhpfbpaaGreatDoor
namespace Rows

/-- THE TIED CARD OF 'exitwavelaw9.BifIs'. -/
def bifIsCard : Claim7 := { stood := { row := bifIsRow, standIns := [], harness := (true, "397a9aaa655bb2d29b08b9ee5bef526a48803c3df4e8b14db605450bc9cc0c80"), looks := true }, kinds := [], alts := [], laidByText := true, laidKinds := [.data, .data, .data, .sentinel, .sentinel], laidTests := true, laidLooks := .later }
def BifIsCardSaid : Prop := Claim7.holds Tryz.pinned (.plain (OpenSpec.ofChange bifIsSpec)) bifIsCard

/-- THE SECOND FORM's CARD OF 'exitwavelaw9.BifIs'. -/
def bifIsUptoCard : Claim7 := { stood := { row := bifIsUptoRow, standIns := [], harness := (true, "397a9aaa655bb2d29b08b9ee5bef526a48803c3df4e8b14db605450bc9cc0c80"), looks := true }, kinds := [], alts := [], laidByText := true, laidKinds := [.data, .data, .data, .sentinel, .sentinel], laidTests := true, laidLooks := .later }
def BifIsUptoCardSaid : Prop := Claim7.holds Tryz.pinned (.plain (OpenSpec.upto bifIsSpec)) bifIsUptoCard
end Rows
end Go.Proofs.YtkmjbiabhpfbpaaGreatDoor
