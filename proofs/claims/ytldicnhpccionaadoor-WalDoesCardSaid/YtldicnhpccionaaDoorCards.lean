/-
  DERIVED. GIVEN WITH THE SEED: THE CARDS: each row of YtldicnhpccionaaDoorRows.lean that lists a variable, with what it lists TIED to the program's text (the seventh form; the later family's looks); each row that meets fmt, with fmt's text TOLD by the authors' own Lean function (tested against real Go, not proved from fmt's source: count such statements apart). THE CARD IS WHAT COUNTS. Prove the row's statement (the work); the ties are given (YtldicnhpccionaaDoorTie.lean); close each card by the builder's one call (the guide's Derived/Test/ToyasCard.lean, 'card_holds'). Laid BY PROGRAM, IN A SANDBOX (cutbox-door.mjs). By AI agents, Wed Nov 11 2026. No macro, syntax, notation, axiom, sorry.
-/
import Derived.Test.YtldicnhpccionaaDoorRows
import GoSem.ClaimSeven
namespace Go.Proofs.YtldicnhpccionaaDoor
namespace Rows

/-- THE TIED CARD OF 'wapentakelaw17.WalTorn'. -/
def walTornCard : Claim7 := { stood := { row := walTornRow, standIns := [], harness := (true, "143ca8ca9768c66f8dff03c43cc395a529bbf67352310ca9afbf194d97329c71"), looks := false }, kinds := [], alts := [], laidByText := true, laidKinds := [.data], laidTests := true, laidLooks := .later }
def WalTornCardSaid : Prop := Claim7.holds Tryd.pinned (.plain (OpenSpec.ofChange walTornSpec)) walTornCard

/-- THE TIED CARD OF 'wapentakelaw17.WalLoses'. -/
def walLosesCard : Claim7 := { stood := { row := walLosesRow, standIns := [], harness := (true, "143ca8ca9768c66f8dff03c43cc395a529bbf67352310ca9afbf194d97329c71"), looks := false }, kinds := [], alts := [], laidByText := true, laidKinds := [.data], laidTests := true, laidLooks := .later }
def WalLosesCardSaid : Prop := Claim7.holds Tryd.pinned (.plain (OpenSpec.ofChange walLosesSpec)) walLosesCard

/-- THE TIED CARD OF 'wapentakelaw17.WalMany'. -/
def walManyCard : Claim7 := { stood := { row := walManyRow, standIns := [], harness := (true, "143ca8ca9768c66f8dff03c43cc395a529bbf67352310ca9afbf194d97329c71"), looks := false }, kinds := [], alts := [], laidByText := true, laidKinds := [.data], laidTests := true, laidLooks := .later }
def WalManyCardSaid : Prop := Claim7.holds Tryd.pinned (.plain (OpenSpec.ofChange walManySpec)) walManyCard

/-- THE TIED CARD OF 'wapentakelaw17.WalResets'. -/
def walResetsCard : Claim7 := { stood := { row := walResetsRow, standIns := [], harness := (true, "143ca8ca9768c66f8dff03c43cc395a529bbf67352310ca9afbf194d97329c71"), looks := false }, kinds := [], alts := [], laidByText := true, laidKinds := [.data], laidTests := true, laidLooks := .later }
def WalResetsCardSaid : Prop := Claim7.holds Tryd.pinned (.plain (OpenSpec.ofChange walResetsSpec)) walResetsCard

/-- THE TIED CARD OF 'wapentakelaw17.WalDoes'. -/
def walDoesCard : Claim7 := { stood := { row := walDoesRow, standIns := [], harness := (true, "143ca8ca9768c66f8dff03c43cc395a529bbf67352310ca9afbf194d97329c71"), looks := false }, kinds := [], alts := [], laidByText := true, laidKinds := [.data], laidTests := true, laidLooks := .later }
def WalDoesCardSaid : Prop := Claim7.holds Tryd.pinned (.plain (OpenSpec.ofChange walDoesSpec)) walDoesCard

/-- THE SECOND FORM's CARD OF 'wapentakelaw17.WalTorn'. -/
def walTornUptoCard : Claim7 := { stood := { row := walTornUptoRow, standIns := [], harness := (true, "143ca8ca9768c66f8dff03c43cc395a529bbf67352310ca9afbf194d97329c71"), looks := false }, kinds := [], alts := [], laidByText := true, laidKinds := [.data], laidTests := true, laidLooks := .later }
def WalTornUptoCardSaid : Prop := Claim7.holds Tryd.pinned (.plain (OpenSpec.upto walTornSpec)) walTornUptoCard

/-- THE SECOND FORM's CARD OF 'wapentakelaw17.WalLoses'. -/
def walLosesUptoCard : Claim7 := { stood := { row := walLosesUptoRow, standIns := [], harness := (true, "143ca8ca9768c66f8dff03c43cc395a529bbf67352310ca9afbf194d97329c71"), looks := false }, kinds := [], alts := [], laidByText := true, laidKinds := [.data], laidTests := true, laidLooks := .later }
def WalLosesUptoCardSaid : Prop := Claim7.holds Tryd.pinned (.plain (OpenSpec.upto walLosesSpec)) walLosesUptoCard

/-- THE SECOND FORM's CARD OF 'wapentakelaw17.WalMany'. -/
def walManyUptoCard : Claim7 := { stood := { row := walManyUptoRow, standIns := [], harness := (true, "143ca8ca9768c66f8dff03c43cc395a529bbf67352310ca9afbf194d97329c71"), looks := false }, kinds := [], alts := [], laidByText := true, laidKinds := [.data], laidTests := true, laidLooks := .later }
def WalManyUptoCardSaid : Prop := Claim7.holds Tryd.pinned (.plain (OpenSpec.upto walManySpec)) walManyUptoCard

/-- THE SECOND FORM's CARD OF 'wapentakelaw17.WalResets'. -/
def walResetsUptoCard : Claim7 := { stood := { row := walResetsUptoRow, standIns := [], harness := (true, "143ca8ca9768c66f8dff03c43cc395a529bbf67352310ca9afbf194d97329c71"), looks := false }, kinds := [], alts := [], laidByText := true, laidKinds := [.data], laidTests := true, laidLooks := .later }
def WalResetsUptoCardSaid : Prop := Claim7.holds Tryd.pinned (.plain (OpenSpec.upto walResetsSpec)) walResetsUptoCard

/-- THE SECOND FORM's CARD OF 'wapentakelaw17.WalDoes'. -/
def walDoesUptoCard : Claim7 := { stood := { row := walDoesUptoRow, standIns := [], harness := (true, "143ca8ca9768c66f8dff03c43cc395a529bbf67352310ca9afbf194d97329c71"), looks := false }, kinds := [], alts := [], laidByText := true, laidKinds := [.data], laidTests := true, laidLooks := .later }
def WalDoesUptoCardSaid : Prop := Claim7.holds Tryd.pinned (.plain (OpenSpec.upto walDoesSpec)) walDoesUptoCard
end Rows
end Go.Proofs.YtldicnhpccionaaDoor
