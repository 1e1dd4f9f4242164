/-
  DERIVED. GIVEN WITH THE SEED: THE CARDS: each row of YtfnfgnhbnffagaaDoorRows.lean that lists a variable, with what it lists TIED to the program's text (the seventh form; the later family's looks); each row that meets fmt, with fmt's text TOLD by the authors' own Lean function (tested against real Go, not proved from fmt's source: count such statements apart). THE CARD IS WHAT COUNTS. Prove the row's statement (the work); the ties are given (YtfnfgnhbnffagaaDoorTie.lean); close each card by the builder's one call (the guide's Derived/Test/ToyasCard.lean, 'card_holds'). Laid BY PROGRAM, IN A SANDBOX (cutbox-door.mjs). By AI agents, Wed Nov 11 2026. No macro, syntax, notation, axiom, sorry.
-/
import Derived.Test.YtfnfgnhbnffagaaDoorRows
import GoSem.ClaimSeven
namespace Go.Proofs.YtfnfgnhbnffagaaDoor
namespace Rows

/-- THE TIED CARD OF 'wapentakelaw24.OrderKeeps'. -/
def orderKeepsCard : Claim7 := { stood := { row := orderKeepsRow, standIns := [], harness := (true, "348b0384177367a1721c1a6d96b48c58d168bedf8e7c80c70b7ea53cc80742f4"), looks := false }, kinds := [], alts := [], laidByText := true, laidKinds := [.data, .data, .data], laidTests := true, laidLooks := .later }
def OrderKeepsCardSaid : Prop := Claim7.holds Tryd.pinned (.plain (OpenSpec.ofChange orderKeepsSpec)) orderKeepsCard

/-- THE TIED CARD OF 'wapentakelaw24.OrderRuns'. -/
def orderRunsCard : Claim7 := { stood := { row := orderRunsRow, standIns := [], harness := (true, "348b0384177367a1721c1a6d96b48c58d168bedf8e7c80c70b7ea53cc80742f4"), looks := false }, kinds := [], alts := [], laidByText := true, laidKinds := [.data, .data, .data], laidTests := true, laidLooks := .later }
def OrderRunsCardSaid : Prop := Claim7.holds Tryd.pinned (.plain (OpenSpec.ofChange orderRunsSpec)) orderRunsCard

/-- THE TIED CARD OF 'wapentakelaw24.OrderAgrees'. -/
def orderAgreesCard : Claim7 := { stood := { row := orderAgreesRow, standIns := [], harness := (true, "348b0384177367a1721c1a6d96b48c58d168bedf8e7c80c70b7ea53cc80742f4"), looks := false }, kinds := [], alts := [], laidByText := true, laidKinds := [.data, .data, .data], laidTests := true, laidLooks := .later }
def OrderAgreesCardSaid : Prop := Claim7.holds Tryd.pinned (.plain (OpenSpec.ofChange orderAgreesSpec)) orderAgreesCard

/-- THE SECOND FORM's CARD OF 'wapentakelaw24.OrderKeeps'. -/
def orderKeepsUptoCard : Claim7 := { stood := { row := orderKeepsUptoRow, standIns := [], harness := (true, "348b0384177367a1721c1a6d96b48c58d168bedf8e7c80c70b7ea53cc80742f4"), looks := false }, kinds := [], alts := [], laidByText := true, laidKinds := [.data, .data, .data], laidTests := true, laidLooks := .later }
def OrderKeepsUptoCardSaid : Prop := Claim7.holds Tryd.pinned (.plain (OpenSpec.upto orderKeepsSpec)) orderKeepsUptoCard

/-- THE SECOND FORM's CARD OF 'wapentakelaw24.OrderRuns'. -/
def orderRunsUptoCard : Claim7 := { stood := { row := orderRunsUptoRow, standIns := [], harness := (true, "348b0384177367a1721c1a6d96b48c58d168bedf8e7c80c70b7ea53cc80742f4"), looks := false }, kinds := [], alts := [], laidByText := true, laidKinds := [.data, .data, .data], laidTests := true, laidLooks := .later }
def OrderRunsUptoCardSaid : Prop := Claim7.holds Tryd.pinned (.plain (OpenSpec.upto orderRunsSpec)) orderRunsUptoCard

/-- THE SECOND FORM's CARD OF 'wapentakelaw24.OrderAgrees'. -/
def orderAgreesUptoCard : Claim7 := { stood := { row := orderAgreesUptoRow, standIns := [], harness := (true, "348b0384177367a1721c1a6d96b48c58d168bedf8e7c80c70b7ea53cc80742f4"), looks := false }, kinds := [], alts := [], laidByText := true, laidKinds := [.data, .data, .data], laidTests := true, laidLooks := .later }
def OrderAgreesUptoCardSaid : Prop := Claim7.holds Tryd.pinned (.plain (OpenSpec.upto orderAgreesSpec)) orderAgreesUptoCard
end Rows
end Go.Proofs.YtfnfgnhbnffagaaDoor
