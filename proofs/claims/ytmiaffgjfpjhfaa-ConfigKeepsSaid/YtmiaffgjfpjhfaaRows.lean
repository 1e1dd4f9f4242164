/-
  No cell of these rows narrows 'for every input' (looked for: loops, veiled, ifaces, maps, wideKeys, modest, calm, conditions, laid).
  DERIVED. THE GIVEN ROWS OF THIS SEAT. 6 by the template 'for every input the law returns true; each argument reads behind the call as it read before'; 0 by the template 'total and deterministic' (their statements: YtmiaffgjfpjhfaaTotals.lean).
  GIVEN WITH THE SEED: the statements are not yours to turn. If you find one false, say at which input.
  Laid BY PROGRAM, IN A SANDBOX (cutbox-rows.mjs): the forced cells as the released guide's own fill.sh prints them over the translation 717634a80c3258da… (all of the seat's roots in one cut). By AI agents, Wed Nov 11 2026. No macro, syntax, notation, axiom, sorry.
-/
import Derived.Test.YtmiaffgjfpjhfaaChecked
import GoSem.Claim
import GoSem.ClaimJoined
import GoSem.ClaimMapViews
import Derived.JoinedTies
import Derived.KernelRfl
namespace Go.Proofs.Ytmiaffgjfpjhfaa
/- THE CELL 'sum', in the pinned program and in every row, IS THE sha256 OF THE DUMP (.gsa) THAT YtmiaffgjfpjhfaaProg.lean LOADS. Nothing in Lean hashes anything: it is a label: what it is worth is what the hold of that sum in a sandbox is worth. -/
noncomputable def Try.pinned : Pinned := { name := "ytmiaffgjfpjhfaa", sum := "717634a80c3258da6c8629643122b5af425ce193aec10fc2bb53c7865cc17fe7", checked := Try.checked }
namespace Rows
def none {H : Type} : Left H := { results := [], args := [] }

/-- 'wapentakelaw08.ConfigMeets': WHATEVER THE INPUT: true; the input reads as it did. -/
def configMeetsSpec : ChangeSpec := { name := "configMeets", fn := fun _ => fun
  | [d1, d2, d3] => { results := [.lit (.bool true)], args := [d1, d2, d3] }
  | _ => none }
def configMeetsRow : OpenClaim := { program := "ytmiaffgjfpjhfaa", sum := "717634a80c3258da6c8629643122b5af425ce193aec10fc2bb53c7865cc17fe7", func := "wapentake/wapentakelaw08.ConfigMeets", spec := "configMeets", inPlace := ["slices.overlaps[wapentake/api.Member]"], unfollowed := true, recurses := true, apart := false }
def ConfigMeetsSaid : Prop := configMeetsRow.holds Try.pinned (OpenSpec.ofChange configMeetsSpec)

/-- ITS FALSE NEIGHBOUR: 'it returns false'. Refute it at one input. -/
def configMeetsWrong : ChangeSpec := { name := "configMeets", fn := fun _ => fun
  | [d1, d2, d3] => { results := [.lit (.bool false)], args := [d1, d2, d3] }
  | _ => none }
def ConfigMeetsWrongFalsely : Prop := configMeetsRow.holds Try.pinned (OpenSpec.ofChange configMeetsWrong)

/-- 'wapentakelaw08.ConfigKeeps': WHATEVER THE INPUT: true; the input reads as it did. -/
def configKeepsSpec : ChangeSpec := { name := "configKeeps", fn := fun _ => fun
  | [d1, d2] => { results := [.lit (.bool true)], args := [d1, d2] }
  | _ => none }
def configKeepsRow : OpenClaim := { program := "ytmiaffgjfpjhfaa", sum := "717634a80c3258da6c8629643122b5af425ce193aec10fc2bb53c7865cc17fe7", func := "wapentake/wapentakelaw08.ConfigKeeps", spec := "configKeeps", inPlace := ["slices.overlaps[wapentake/api.Member]"], unfollowed := true, recurses := true, apart := false }
def ConfigKeepsSaid : Prop := configKeepsRow.holds Try.pinned (OpenSpec.ofChange configKeepsSpec)

/-- ITS FALSE NEIGHBOUR: 'it returns false'. Refute it at one input. -/
def configKeepsWrong : ChangeSpec := { name := "configKeeps", fn := fun _ => fun
  | [d1, d2] => { results := [.lit (.bool false)], args := [d1, d2] }
  | _ => none }
def ConfigKeepsWrongFalsely : Prop := configKeepsRow.holds Try.pinned (OpenSpec.ofChange configKeepsWrong)

/-- 'wapentakelaw08.ConfigKeys': WHATEVER THE INPUT: true; the input reads as it did. -/
def configKeysSpec : ChangeSpec := { name := "configKeys", fn := fun _ => fun
  | [d1, d2, d3, d4] => { results := [.lit (.bool true)], args := [d1, d2, d3, d4] }
  | _ => none }
def configKeysRow : OpenClaim := { program := "ytmiaffgjfpjhfaa", sum := "717634a80c3258da6c8629643122b5af425ce193aec10fc2bb53c7865cc17fe7", func := "wapentake/wapentakelaw08.ConfigKeys", spec := "configKeys", inPlace := ["slices.overlaps[wapentake/api.Member]"], unfollowed := true, recurses := true, apart := false }
def ConfigKeysSaid : Prop := configKeysRow.holds Try.pinned (OpenSpec.ofChange configKeysSpec)

/-- ITS FALSE NEIGHBOUR: 'it returns false'. Refute it at one input. -/
def configKeysWrong : ChangeSpec := { name := "configKeys", fn := fun _ => fun
  | [d1, d2, d3, d4] => { results := [.lit (.bool false)], args := [d1, d2, d3, d4] }
  | _ => none }
def ConfigKeysWrongFalsely : Prop := configKeysRow.holds Try.pinned (OpenSpec.ofChange configKeysWrong)

/-- 'wapentakelaw08.ConfigCounts': WHATEVER THE INPUT: true; the input reads as it did. -/
def configCountsSpec : ChangeSpec := { name := "configCounts", fn := fun _ => fun
  | [d1, d2] => { results := [.lit (.bool true)], args := [d1, d2] }
  | _ => none }
def configCountsRow : OpenClaim := { program := "ytmiaffgjfpjhfaa", sum := "717634a80c3258da6c8629643122b5af425ce193aec10fc2bb53c7865cc17fe7", func := "wapentake/wapentakelaw08.ConfigCounts", spec := "configCounts", inPlace := ["slices.overlaps[wapentake/api.Member]"], unfollowed := true, recurses := true, apart := false }
def ConfigCountsSaid : Prop := configCountsRow.holds Try.pinned (OpenSpec.ofChange configCountsSpec)

/-- ITS FALSE NEIGHBOUR: 'it returns false'. Refute it at one input. -/
def configCountsWrong : ChangeSpec := { name := "configCounts", fn := fun _ => fun
  | [d1, d2] => { results := [.lit (.bool false)], args := [d1, d2] }
  | _ => none }
def ConfigCountsWrongFalsely : Prop := configCountsRow.holds Try.pinned (OpenSpec.ofChange configCountsWrong)

/-- 'wapentakelaw08.ConfigSteps': WHATEVER THE INPUT: true; the input reads as it did. -/
def configStepsSpec : ChangeSpec := { name := "configSteps", fn := fun _ => fun
  | [d1, d2] => { results := [.lit (.bool true)], args := [d1, d2] }
  | _ => none }
def configStepsRow : OpenClaim := { program := "ytmiaffgjfpjhfaa", sum := "717634a80c3258da6c8629643122b5af425ce193aec10fc2bb53c7865cc17fe7", func := "wapentake/wapentakelaw08.ConfigSteps", spec := "configSteps", inPlace := ["slices.overlaps[wapentake/api.Member]"], unfollowed := true, recurses := true, apart := false }
def ConfigStepsSaid : Prop := configStepsRow.holds Try.pinned (OpenSpec.ofChange configStepsSpec)

/-- ITS FALSE NEIGHBOUR: 'it returns false'. Refute it at one input. -/
def configStepsWrong : ChangeSpec := { name := "configSteps", fn := fun _ => fun
  | [d1, d2] => { results := [.lit (.bool false)], args := [d1, d2] }
  | _ => none }
def ConfigStepsWrongFalsely : Prop := configStepsRow.holds Try.pinned (OpenSpec.ofChange configStepsWrong)

/-- 'wapentakelaw08.ConfigBack': WHATEVER THE INPUT: true; the input reads as it did. -/
def configBackSpec : ChangeSpec := { name := "configBack", fn := fun _ => fun
  | [d1, d2, d3] => { results := [.lit (.bool true)], args := [d1, d2, d3] }
  | _ => none }
def configBackRow : OpenClaim := { program := "ytmiaffgjfpjhfaa", sum := "717634a80c3258da6c8629643122b5af425ce193aec10fc2bb53c7865cc17fe7", func := "wapentake/wapentakelaw08.ConfigBack", spec := "configBack", inPlace := ["slices.overlaps[wapentake/api.Member]"], unfollowed := true, recurses := true, apart := false }
def ConfigBackSaid : Prop := configBackRow.holds Try.pinned (OpenSpec.ofChange configBackSpec)

/-- ITS FALSE NEIGHBOUR: 'it returns false'. Refute it at one input. -/
def configBackWrong : ChangeSpec := { name := "configBack", fn := fun _ => fun
  | [d1, d2, d3] => { results := [.lit (.bool false)], args := [d1, d2, d3] }
  | _ => none }
def ConfigBackWrongFalsely : Prop := configBackRow.holds Try.pinned (OpenSpec.ofChange configBackWrong)

/- THE SECOND FORM. 'bulk': how many values and letters a reading holds, each counted each time it is reached (what is shared counts as often as it is met; a slice's spare places count too). A statement '..UptoSaid' is the law's where the arguments, and the package variables that the reading takes, are together of bulk at most 1048576: NARROWER than '..Said'. Prove '..Said' where nothing that the law and all that it calls make is longer than what came in: it says more and counts as full. Else prove '..UptoSaid'. A law counts once. -/
mutual
def uptoBulk {H : Type} : DataW H → Nat
  | .lit (.string bytes) => bytes.length + 1
  | .lit _ => 1
  | .nil => 1
  | .ptr d => uptoBulk d + 1
  | .slice elems spare => uptoBulkAll elems + uptoBulkAll spare + 1
  | .agg parts => uptoBulkAll parts + 1
  | .iface _ d => uptoBulk d + 1
  | .map entries => uptoBulkEntries entries + 1
  | .held _ => 1
def uptoBulkAll {H : Type} : List (DataW H) → Nat
  | [] => 0
  | d :: r => uptoBulk d + uptoBulkAll r
def uptoBulkEntries {H : Type} : List (Lit × DataW H) → Nat
  | [] => 0
  | x :: r => uptoBulkEntry x + uptoBulkEntries r
def uptoBulkEntry {H : Type} : Lit × DataW H → Nat
  | (.string bytes, d) => bytes.length + uptoBulk d + 1
  | (_, d) => uptoBulk d + 1
 end
def uptoSmall : (H : Type) → List (DataW H) → Bool := fun _ ds => decide (uptoBulkAll ds ≤ 1048576)
def OpenSpec.upto (s : _root_.Go.ChangeSpec) : _root_.Go.OpenSpec := { _root_.Go.OpenSpec.ofChange s with cond := some uptoSmall }

/-- 'wapentakelaw08.ConfigMeets', WHERE WHAT IT READS IS OF BULK AT MOST 1048576: true; the input reads as it did. -/
def configMeetsUptoRow : OpenClaim := { program := "ytmiaffgjfpjhfaa", sum := "717634a80c3258da6c8629643122b5af425ce193aec10fc2bb53c7865cc17fe7", func := "wapentake/wapentakelaw08.ConfigMeets", spec := "configMeets", inPlace := ["slices.overlaps[wapentake/api.Member]"], unfollowed := true, recurses := true, apart := false, narrowed := true }
def ConfigMeetsUptoSaid : Prop := configMeetsUptoRow.holds Try.pinned (OpenSpec.upto configMeetsSpec)

/-- 'wapentakelaw08.ConfigKeeps', WHERE WHAT IT READS IS OF BULK AT MOST 1048576: true; the input reads as it did. -/
def configKeepsUptoRow : OpenClaim := { program := "ytmiaffgjfpjhfaa", sum := "717634a80c3258da6c8629643122b5af425ce193aec10fc2bb53c7865cc17fe7", func := "wapentake/wapentakelaw08.ConfigKeeps", spec := "configKeeps", inPlace := ["slices.overlaps[wapentake/api.Member]"], unfollowed := true, recurses := true, apart := false, narrowed := true }
def ConfigKeepsUptoSaid : Prop := configKeepsUptoRow.holds Try.pinned (OpenSpec.upto configKeepsSpec)

/-- 'wapentakelaw08.ConfigKeys', WHERE WHAT IT READS IS OF BULK AT MOST 1048576: true; the input reads as it did. -/
def configKeysUptoRow : OpenClaim := { program := "ytmiaffgjfpjhfaa", sum := "717634a80c3258da6c8629643122b5af425ce193aec10fc2bb53c7865cc17fe7", func := "wapentake/wapentakelaw08.ConfigKeys", spec := "configKeys", inPlace := ["slices.overlaps[wapentake/api.Member]"], unfollowed := true, recurses := true, apart := false, narrowed := true }
def ConfigKeysUptoSaid : Prop := configKeysUptoRow.holds Try.pinned (OpenSpec.upto configKeysSpec)

/-- 'wapentakelaw08.ConfigCounts', WHERE WHAT IT READS IS OF BULK AT MOST 1048576: true; the input reads as it did. -/
def configCountsUptoRow : OpenClaim := { program := "ytmiaffgjfpjhfaa", sum := "717634a80c3258da6c8629643122b5af425ce193aec10fc2bb53c7865cc17fe7", func := "wapentake/wapentakelaw08.ConfigCounts", spec := "configCounts", inPlace := ["slices.overlaps[wapentake/api.Member]"], unfollowed := true, recurses := true, apart := false, narrowed := true }
def ConfigCountsUptoSaid : Prop := configCountsUptoRow.holds Try.pinned (OpenSpec.upto configCountsSpec)

/-- 'wapentakelaw08.ConfigSteps', WHERE WHAT IT READS IS OF BULK AT MOST 1048576: true; the input reads as it did. -/
def configStepsUptoRow : OpenClaim := { program := "ytmiaffgjfpjhfaa", sum := "717634a80c3258da6c8629643122b5af425ce193aec10fc2bb53c7865cc17fe7", func := "wapentake/wapentakelaw08.ConfigSteps", spec := "configSteps", inPlace := ["slices.overlaps[wapentake/api.Member]"], unfollowed := true, recurses := true, apart := false, narrowed := true }
def ConfigStepsUptoSaid : Prop := configStepsUptoRow.holds Try.pinned (OpenSpec.upto configStepsSpec)

/-- 'wapentakelaw08.ConfigBack', WHERE WHAT IT READS IS OF BULK AT MOST 1048576: true; the input reads as it did. -/
def configBackUptoRow : OpenClaim := { program := "ytmiaffgjfpjhfaa", sum := "717634a80c3258da6c8629643122b5af425ce193aec10fc2bb53c7865cc17fe7", func := "wapentake/wapentakelaw08.ConfigBack", spec := "configBack", inPlace := ["slices.overlaps[wapentake/api.Member]"], unfollowed := true, recurses := true, apart := false, narrowed := true }
def ConfigBackUptoSaid : Prop := configBackUptoRow.holds Try.pinned (OpenSpec.upto configBackSpec)

end Rows
end Go.Proofs.Ytmiaffgjfpjhfaa
