/-
  No cell of these rows narrows 'for every input' (looked for: loops, veiled, ifaces, maps, wideKeys, modest, calm, conditions, laid).
  DERIVED. THE GIVEN ROWS OF THIS SEAT. 5 by the template 'for every input the law returns true; each argument reads behind the call as it read before'; 0 by the template 'total and deterministic' (their statements: YtjifjdmlgbbfdaaTotals.lean).
  GIVEN WITH THE SEED: the statements are not yours to turn. If you find one false, say at which input.
  Laid BY PROGRAM, IN A SANDBOX (cutbox-rows.mjs): the forced cells as the released guide's own fill.sh prints them over the translation e0d29c0e628a7b87… (all of the seat's roots in one cut). By AI agents, Wed Nov 11 2026. No macro, syntax, notation, axiom, sorry.
-/
import Derived.Test.YtjifjdmlgbbfdaaChecked
import GoSem.Claim
import GoSem.ClaimJoined
import GoSem.ClaimMapViews
import Derived.JoinedTies
import Derived.KernelRfl
namespace Go.Proofs.Ytjifjdmlgbbfdaa
/- THE CELL 'sum', in the pinned program and in every row, IS THE sha256 OF THE DUMP (.gsa) THAT YtjifjdmlgbbfdaaProg.lean LOADS. Nothing in Lean hashes anything: it is a label: what it is worth is what the hold of that sum in a sandbox is worth. -/
noncomputable def Try.pinned : Pinned := { name := "ytjifjdmlgbbfdaa", sum := "e0d29c0e628a7b87625ef9764c71ad0f6e995ddae56856f69755d434eec6b4ba", checked := Try.checked }
namespace Rows
def none {H : Type} : Left H := { results := [], args := [] }

/-- 'wapentakelaw07.RankOrders': WHATEVER THE INPUT: true; the input reads as it did. -/
def rankOrdersSpec : ChangeSpec := { name := "rankOrders", fn := fun _ => fun
  | [d1, d2, d3] => { results := [.lit (.bool true)], args := [d1, d2, d3] }
  | _ => none }
def rankOrdersRow : OpenClaim := { program := "ytjifjdmlgbbfdaa", sum := "e0d29c0e628a7b87625ef9764c71ad0f6e995ddae56856f69755d434eec6b4ba", func := "wapentake/wapentakelaw07.RankOrders", spec := "rankOrders", apart := false }
def RankOrdersSaid : Prop := rankOrdersRow.holds Try.pinned (OpenSpec.ofChange rankOrdersSpec)

/-- ITS FALSE NEIGHBOUR: 'it returns false'. Refute it at one input. -/
def rankOrdersWrong : ChangeSpec := { name := "rankOrders", fn := fun _ => fun
  | [d1, d2, d3] => { results := [.lit (.bool false)], args := [d1, d2, d3] }
  | _ => none }
def RankOrdersWrongFalsely : Prop := rankOrdersRow.holds Try.pinned (OpenSpec.ofChange rankOrdersWrong)

/-- 'wapentakelaw07.RankMoves': WHATEVER THE INPUT: true; the input reads as it did. -/
def rankMovesSpec : ChangeSpec := { name := "rankMoves", fn := fun _ => fun
  | [d1, d2, d3, d4] => { results := [.lit (.bool true)], args := [d1, d2, d3, d4] }
  | _ => none }
def rankMovesRow : OpenClaim := { program := "ytjifjdmlgbbfdaa", sum := "e0d29c0e628a7b87625ef9764c71ad0f6e995ddae56856f69755d434eec6b4ba", func := "wapentake/wapentakelaw07.RankMoves", spec := "rankMoves", apart := false }
def RankMovesSaid : Prop := rankMovesRow.holds Try.pinned (OpenSpec.ofChange rankMovesSpec)

/-- ITS FALSE NEIGHBOUR: 'it returns false'. Refute it at one input. -/
def rankMovesWrong : ChangeSpec := { name := "rankMoves", fn := fun _ => fun
  | [d1, d2, d3, d4] => { results := [.lit (.bool false)], args := [d1, d2, d3, d4] }
  | _ => none }
def RankMovesWrongFalsely : Prop := rankMovesRow.holds Try.pinned (OpenSpec.ofChange rankMovesWrong)

/-- 'wapentakelaw07.RankWaits': WHATEVER THE INPUT: true; the input reads as it did. -/
def rankWaitsSpec : ChangeSpec := { name := "rankWaits", fn := fun _ => fun
  | [d1, d2, d3, d4] => { results := [.lit (.bool true)], args := [d1, d2, d3, d4] }
  | _ => none }
def rankWaitsRow : OpenClaim := { program := "ytjifjdmlgbbfdaa", sum := "e0d29c0e628a7b87625ef9764c71ad0f6e995ddae56856f69755d434eec6b4ba", func := "wapentake/wapentakelaw07.RankWaits", spec := "rankWaits", apart := false }
def RankWaitsSaid : Prop := rankWaitsRow.holds Try.pinned (OpenSpec.ofChange rankWaitsSpec)

/-- ITS FALSE NEIGHBOUR: 'it returns false'. Refute it at one input. -/
def rankWaitsWrong : ChangeSpec := { name := "rankWaits", fn := fun _ => fun
  | [d1, d2, d3, d4] => { results := [.lit (.bool false)], args := [d1, d2, d3, d4] }
  | _ => none }
def RankWaitsWrongFalsely : Prop := rankWaitsRow.holds Try.pinned (OpenSpec.ofChange rankWaitsWrong)

/-- 'wapentakelaw07.RankParts': WHATEVER THE INPUT: true; the input reads as it did. -/
def rankPartsSpec : ChangeSpec := { name := "rankParts", fn := fun _ => fun
  | [d1, d2, d3, d4] => { results := [.lit (.bool true)], args := [d1, d2, d3, d4] }
  | _ => none }
def rankPartsRow : OpenClaim := { program := "ytjifjdmlgbbfdaa", sum := "e0d29c0e628a7b87625ef9764c71ad0f6e995ddae56856f69755d434eec6b4ba", func := "wapentake/wapentakelaw07.RankParts", spec := "rankParts", apart := false }
def RankPartsSaid : Prop := rankPartsRow.holds Try.pinned (OpenSpec.ofChange rankPartsSpec)

/-- ITS FALSE NEIGHBOUR: 'it returns false'. Refute it at one input. -/
def rankPartsWrong : ChangeSpec := { name := "rankParts", fn := fun _ => fun
  | [d1, d2, d3, d4] => { results := [.lit (.bool false)], args := [d1, d2, d3, d4] }
  | _ => none }
def RankPartsWrongFalsely : Prop := rankPartsRow.holds Try.pinned (OpenSpec.ofChange rankPartsWrong)

/-- 'wapentakelaw07.RankLeads': WHATEVER THE INPUT: true; the input reads as it did. -/
def rankLeadsSpec : ChangeSpec := { name := "rankLeads", fn := fun _ => fun
  | [d1, d2, d3, d4] => { results := [.lit (.bool true)], args := [d1, d2, d3, d4] }
  | _ => none }
def rankLeadsRow : OpenClaim := { program := "ytjifjdmlgbbfdaa", sum := "e0d29c0e628a7b87625ef9764c71ad0f6e995ddae56856f69755d434eec6b4ba", func := "wapentake/wapentakelaw07.RankLeads", spec := "rankLeads", apart := false }
def RankLeadsSaid : Prop := rankLeadsRow.holds Try.pinned (OpenSpec.ofChange rankLeadsSpec)

/-- ITS FALSE NEIGHBOUR: 'it returns false'. Refute it at one input. -/
def rankLeadsWrong : ChangeSpec := { name := "rankLeads", fn := fun _ => fun
  | [d1, d2, d3, d4] => { results := [.lit (.bool false)], args := [d1, d2, d3, d4] }
  | _ => none }
def RankLeadsWrongFalsely : Prop := rankLeadsRow.holds Try.pinned (OpenSpec.ofChange rankLeadsWrong)

/- THE SECOND FORM. 'bulk': how many values and letters a reading holds, each counted each time it is reached (what is shared counts as often as it is met; a slice's spare places count too). A statement '..UptoSaid' is the law's where the arguments, and the package variables that the reading takes, are together of bulk at most 1048576: NARROWER than '..Said'. Prove '..Said' where nothing that the law and all that it calls make is longer than what came in: it says more and counts as full. Else prove '..UptoSaid'. A law counts once. -/
mutual
def uptoBulk {H : Type} : DataW H → Nat
  | .lit (.string bytes) => bytes.length + 1
  | .lit _ => 1
  | .nil => 1
  | .ptr d => uptoBulk d + 1
  | .slice elems spare => uptoBulkAll elems + uptoBulkAll spare + 1
  | .agg parts => uptoBulkAll parts + 1
  | .iface _ d => uptoBulk d + 1
  | .map entries => uptoBulkEntries entries + 1
  | .held _ => 1
def uptoBulkAll {H : Type} : List (DataW H) → Nat
  | [] => 0
  | d :: r => uptoBulk d + uptoBulkAll r
def uptoBulkEntries {H : Type} : List (Lit × DataW H) → Nat
  | [] => 0
  | x :: r => uptoBulkEntry x + uptoBulkEntries r
def uptoBulkEntry {H : Type} : Lit × DataW H → Nat
  | (.string bytes, d) => bytes.length + uptoBulk d + 1
  | (_, d) => uptoBulk d + 1
 end
def uptoSmall : (H : Type) → List (DataW H) → Bool := fun _ ds => decide (uptoBulkAll ds ≤ 1048576)
def OpenSpec.upto (s : _root_.Go.ChangeSpec) : _root_.Go.OpenSpec := { _root_.Go.OpenSpec.ofChange s with cond := some uptoSmall }

/-- 'wapentakelaw07.RankOrders', WHERE WHAT IT READS IS OF BULK AT MOST 1048576: true; the input reads as it did. -/
def rankOrdersUptoRow : OpenClaim := { program := "ytjifjdmlgbbfdaa", sum := "e0d29c0e628a7b87625ef9764c71ad0f6e995ddae56856f69755d434eec6b4ba", func := "wapentake/wapentakelaw07.RankOrders", spec := "rankOrders", apart := false, narrowed := true }
def RankOrdersUptoSaid : Prop := rankOrdersUptoRow.holds Try.pinned (OpenSpec.upto rankOrdersSpec)

/-- 'wapentakelaw07.RankMoves', WHERE WHAT IT READS IS OF BULK AT MOST 1048576: true; the input reads as it did. -/
def rankMovesUptoRow : OpenClaim := { program := "ytjifjdmlgbbfdaa", sum := "e0d29c0e628a7b87625ef9764c71ad0f6e995ddae56856f69755d434eec6b4ba", func := "wapentake/wapentakelaw07.RankMoves", spec := "rankMoves", apart := false, narrowed := true }
def RankMovesUptoSaid : Prop := rankMovesUptoRow.holds Try.pinned (OpenSpec.upto rankMovesSpec)

/-- 'wapentakelaw07.RankWaits', WHERE WHAT IT READS IS OF BULK AT MOST 1048576: true; the input reads as it did. -/
def rankWaitsUptoRow : OpenClaim := { program := "ytjifjdmlgbbfdaa", sum := "e0d29c0e628a7b87625ef9764c71ad0f6e995ddae56856f69755d434eec6b4ba", func := "wapentake/wapentakelaw07.RankWaits", spec := "rankWaits", apart := false, narrowed := true }
def RankWaitsUptoSaid : Prop := rankWaitsUptoRow.holds Try.pinned (OpenSpec.upto rankWaitsSpec)

/-- 'wapentakelaw07.RankParts', WHERE WHAT IT READS IS OF BULK AT MOST 1048576: true; the input reads as it did. -/
def rankPartsUptoRow : OpenClaim := { program := "ytjifjdmlgbbfdaa", sum := "e0d29c0e628a7b87625ef9764c71ad0f6e995ddae56856f69755d434eec6b4ba", func := "wapentake/wapentakelaw07.RankParts", spec := "rankParts", apart := false, narrowed := true }
def RankPartsUptoSaid : Prop := rankPartsUptoRow.holds Try.pinned (OpenSpec.upto rankPartsSpec)

/-- 'wapentakelaw07.RankLeads', WHERE WHAT IT READS IS OF BULK AT MOST 1048576: true; the input reads as it did. -/
def rankLeadsUptoRow : OpenClaim := { program := "ytjifjdmlgbbfdaa", sum := "e0d29c0e628a7b87625ef9764c71ad0f6e995ddae56856f69755d434eec6b4ba", func := "wapentake/wapentakelaw07.RankLeads", spec := "rankLeads", apart := false, narrowed := true }
def RankLeadsUptoSaid : Prop := rankLeadsUptoRow.holds Try.pinned (OpenSpec.upto rankLeadsSpec)

end Rows
end Go.Proofs.Ytjifjdmlgbbfdaa
