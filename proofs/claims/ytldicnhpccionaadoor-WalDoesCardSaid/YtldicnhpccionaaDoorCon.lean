/-
What a disk's files hold.
-/
import Derived.Test.YtldicnhpccionaaDoorArm
namespace Go.Proofs.YtldicnhpccionaaDoor
open Go.RowKit
set_option linter.unusedVariables false
set_option linter.unusedSimpArgs false
/-- names and bytes -/
def con (fs : List FileS) : List (ByteArray × List UInt8 × List UInt8) := fs.map fun f => (f.nm, f.s, f.u)
theorem con_upd {fs : List FileS} {f' : FileS} : con (updF fs f') = (con fs).map fun x => if x.1 = f'.nm then (f'.nm, f'.s, f'.u) else x := by
  unfold con updF
  rw [List.map_map, List.map_map]
  refine List.map_congr_left fun f _ => ?_
  simp only [Function.comp]
  split <;> rfl
theorem con_add (fs : List FileS) (f : FileS) : con (fs ++ [f]) = con fs ++ [(f.nm, f.s, f.u)] := by simp [con]
end Go.Proofs.YtldicnhpccionaaDoor
