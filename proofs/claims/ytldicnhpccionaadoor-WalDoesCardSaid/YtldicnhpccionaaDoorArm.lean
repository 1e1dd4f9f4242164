/-
On, Arm.
-/
import Derived.Test.YtldicnhpccionaaDoorRead
namespace Go.Proofs.YtldicnhpccionaaDoor
open Go.RowKit
set_option linter.unusedVariables false
set_option linter.unusedSimpArgs false
set_option maxRecDepth 100000 in
theorem on_any (B db mb : Nat) (down : Bool) (acts fuse keep : Int) (fs : List FileS) (w : World) (h : Dk B db mb down acts fuse keep fs w) :
    Calls Tryd.prog 22 #[.pointer (some ⟨db, 0, none⟩)] w fun e w' => e = .returned (.tuple #[]) ∧ Dk B db mb false acts fuse keep fs w' ∧ Mv (· = db) w w' := by
  have c1 : w.cell? ⟨db, 1, none⟩ = some (.bool down) := cell_at h.cells rfl
  have z1 : w.frozen? ⟨db, 1, none⟩ = false := frozen_at h.cells
  have m1 : Mv (· = db) w (w.setCell ⟨db, 1, none⟩ (.bool false)) := Mv.setCell w ⟨db, 1, none⟩ _ rfl
  have d1 : Dk B db mb false acts fuse keep fs (w.setCell ⟨db, 1, none⟩ (.bool false)) := h.turn m1 (setCell_at (i := 1) h.cells _)
  have E := Lib.hid (And.intro d1 m1)
  clear d1 m1 h
  go_enter Tryd.func22, Tryd.ntmps22
  go_wp2_with fail
  go_end0
  exact ⟨rfl, E.out.1, E.out.2⟩
set_option maxRecDepth 100000 in
theorem arm_any (B db mb : Nat) (down : Bool) (acts fuse keep : Int) (fs : List FileS) (w : World) (h : Dk B db mb down acts fuse keep fs w) (n k : Int) :
    Calls Tryd.prog 18 #[.pointer (some ⟨db, 0, none⟩), .int .i64 n, .int .i64 k] w fun e w' => e = .returned (.tuple #[]) ∧ Dk B db mb down acts (if n < 0 then 0 else n) k fs w' ∧ Mv (· = db) w w' := by
  have z3 : w.frozen? ⟨db, 3, none⟩ = false := frozen_at h.cells
  have z4 : w.frozen? ⟨db, 4, none⟩ = false := frozen_at h.cells
  have c3 : w.cell? ⟨db, 3, none⟩ = some (.int .i64 fuse) := cell_at h.cells rfl
  have c4 : w.cell? ⟨db, 4, none⟩ = some (.int .i64 keep) := cell_at h.cells rfl
  have g : ∀ x : Int, Dk B db mb down acts x k fs ((w.setCell ⟨db, 3, none⟩ (.int .i64 x)).setCell ⟨db, 4, none⟩ (.int .i64 k)) ∧ Mv (· = db) w ((w.setCell ⟨db, 3, none⟩ (.int .i64 x)).setCell ⟨db, 4, none⟩ (.int .i64 k)) := fun x => by
    have m1 : Mv (· = db) w ((w.setCell ⟨db, 3, none⟩ (.int .i64 x)).setCell ⟨db, 4, none⟩ (.int .i64 k)) := (Mv.setCell (fp := (· = db)) w ⟨db, 3, none⟩ _ rfl).trans (fq := (· = db)) (Mv.setCell _ ⟨db, 4, none⟩ _ rfl) (fun _ _ c => c)
    exact ⟨h.turn m1 (setCell_at (i := 4) (setCell_at (i := 3) h.cells _) _), m1⟩
  have G := Lib.hid g
  clear h g
  go_enter Tryd.func18, Tryd.ntmps18
  go_wp2_with fail
  all_goals go_end0
  · exact ⟨rfl, G.out 0⟩
  · exact ⟨rfl, G.out n⟩
end Go.Proofs.YtldicnhpccionaaDoor
