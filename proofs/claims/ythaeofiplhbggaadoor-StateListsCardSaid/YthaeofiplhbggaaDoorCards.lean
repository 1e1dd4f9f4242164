/-
  DERIVED. GIVEN WITH THE SEED: THE CARDS: each row of YthaeofiplhbggaaDoorRows.lean that lists a variable, with what it lists TIED to the program's text (the seventh form; the later family's looks); each row that meets fmt, with fmt's text TOLD by the authors' own Lean function (tested against real Go, not proved from fmt's source: count such statements apart). THE CARD IS WHAT COUNTS. Prove the row's statement (the work); the ties are given (YthaeofiplhbggaaDoorTie.lean); close each card by the builder's one call (the guide's Derived/Test/ToyasCard.lean, 'card_holds'). Laid BY PROGRAM, IN A SANDBOX (cutbox-door.mjs). By AI agents, Wed Nov 11 2026. No macro, syntax, notation, axiom, sorry.
-/
import Derived.Test.YthaeofiplhbggaaDoorRows
import GoSem.ClaimSeven
namespace Go.Proofs.YthaeofiplhbggaaDoor
namespace Rows

/-- THE TIED CARD OF 'wapentakelaw10.StateLists'. -/
def stateListsCard : Claim7 := { stood := { row := stateListsRow, standIns := [], harness := (true, "b32369b533c6b358358267a404c49eb88a61de93085df36f3fdb683b2cf4362c"), looks := false }, kinds := [], alts := [], laidByText := true, laidKinds := [.data, .data, .data], laidTests := true, laidLooks := .later }
def StateListsCardSaid : Prop := Claim7.holds Tryd.pinned (.plain (OpenSpec.ofChange stateListsSpec)) stateListsCard

/-- THE SECOND FORM's CARD OF 'wapentakelaw10.StateLists'. -/
def stateListsUptoCard : Claim7 := { stood := { row := stateListsUptoRow, standIns := [], harness := (true, "b32369b533c6b358358267a404c49eb88a61de93085df36f3fdb683b2cf4362c"), looks := false }, kinds := [], alts := [], laidByText := true, laidKinds := [.data, .data, .data], laidTests := true, laidLooks := .later }
def StateListsUptoCardSaid : Prop := Claim7.holds Tryd.pinned (.plain (OpenSpec.upto stateListsSpec)) stateListsUptoCard
end Rows
end Go.Proofs.YthaeofiplhbggaaDoor
