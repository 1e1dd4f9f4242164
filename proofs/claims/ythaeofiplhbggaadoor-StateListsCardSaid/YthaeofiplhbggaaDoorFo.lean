/-
Requests that a text writes out; four members.
-/
import Derived.Test.YthaeofiplhbggaaDoorApk
namespace Go.Proofs.YthaeofiplhbggaaDoor
open Go.RowKit
set_option linter.unusedVariables false
set_option linter.unusedSimpArgs false
set_option maxRecDepth 100000
@[go_sem ↓] theorem bd_Op (ps : Array (Nat × Value)) : Instr.build 37 ps = bdRow 37 ps := rfl
theorem run_bdOp (w : World) (ps : Array (Nat × Value)) (cells : Array Value) (hf : Instr.fill ((#[(0, 1), (1, 1), (2, 1), (3, 1), (4, 36)] : Array (Nat × Nat))[·]?) (default : Opn).arr ps.toList = some cells) : (bdRow 37 ps).run Tryd.prog w = .ok (.agg cells) w :=
  run_build w 37 (default : Opn).arr cells _ _ ps (zv_Op w) Tryd.underlying37 (by kernel_rfl) hf
@[go_sem] theorem run_bdO2 (k : Int) (key : ByteArray) (w : World) : (bdRow 37 #[(0, .int .i64 k), (1, .string key)]).run Tryd.prog w = .ok (.agg (Opn.arr ⟨k, key, ByteArray.empty, ByteArray.empty, Chg.zero⟩)) w :=
  run_bdOp w _ _ (by kernel_rfl)
@[go_sem] theorem run_bdO3 (k : Int) (key val : ByteArray) (w : World) : (bdRow 37 #[(0, .int .i64 k), (1, .string key), (2, .string val)]).run Tryd.prog w = .ok (.agg (Opn.arr ⟨k, key, val, ByteArray.empty, Chg.zero⟩)) w :=
  run_bdOp w _ _ (by kernel_rfl)
@[go_sem] theorem run_bdO4 (k : Int) (key val old : ByteArray) (w : World) : (bdRow 37 #[(0, .int .i64 k), (1, .string key), (3, .string old), (2, .string val)]).run Tryd.prog w = .ok (.agg (Opn.arr ⟨k, key, val, old, Chg.zero⟩)) w :=
  run_bdOp w _ _ (by kernel_rfl)
@[go_sem ↓] theorem bd_Request (ps : Array (Nat × Value)) : Instr.build 39 ps = bdRow 39 ps := rfl
theorem run_bdRq (w : World) (ps : Array (Nat × Value)) (cells : Array Value) (hf : Instr.fill ((#[(0, 1), (1, 1), (2, 40)] : Array (Nat × Nat))[·]?) (default : Rq).arr ps.toList = some cells) : (bdRow 39 ps).run Tryd.prog w = .ok (.agg cells) w :=
  run_build w 39 (default : Rq).arr cells _ _ ps (zv_Request w) Tryd.underlying39 (by kernel_rfl) hf
@[go_sem] theorem run_bdRq3 (c n k : Int) (key val old : ByteArray) (w : World) : (bdRow 39 #[(0, .int .i64 c), (1, .int .i64 n), (2, .agg (Opn.arr ⟨k, key, val, old, Chg.zero⟩))]).run Tryd.prog w = .ok (.agg (Rq.arr ⟨c, n, ⟨k, key, val, old, Chg.zero⟩⟩)) w :=
  run_bdRq w _ _ (by kernel_rfl)
def four : List Mb := [⟨1, Kb.zero⟩, ⟨2, Kb.zero⟩, ⟨3, Kb.zero⟩, ⟨4, Kb.zero⟩]
theorem four_ok : OkAll four := by
  intro m hm
  have : m.key = Kb.zero ∧ (Lit.int .i64 m.id).wf = true := by
    unfold four at hm
    simp only [List.mem_cons, List.not_mem_nil, or_false] at hm
    rcases hm with rfl | rfl | rfl | rfl <;> exact ⟨rfl, by decide⟩
  exact ⟨by rw [this.1]; exact Kb.zero_ok, this.2⟩
@[go_sem] theorem bs_M4 (w : World) : (bsRow 24 4 #[(0, .agg (Mb.arr ⟨1, Kb.zero⟩)), (1, .agg (Mb.arr ⟨2, Kb.zero⟩)), (2, .agg (Mb.arr ⟨3, Kb.zero⟩)), (3, .agg (Mb.arr ⟨4, Kb.zero⟩))]).run Tryd.prog w =
    .ok (.slice (some ⟨w.heap.size, 0, none⟩) 4 4) (w.alloc (.cells (flatC Mb.cells four).toArray 72)) := by
  obtain ⟨i0, hi, hz0, hz1, hz2⟩ := info_parts infoM
  have := bs_row Tryd.underlying24 hi hz0 hz1 (Mb.size Mb.zero_ok) (by decide) w [.agg (Mb.arr ⟨1, Kb.zero⟩), .agg (Mb.arr ⟨2, Kb.zero⟩), .agg (Mb.arr ⟨3, Kb.zero⟩), .agg (Mb.arr ⟨4, Kb.zero⟩)]
    (by
      intro v hv
      simp only [List.mem_cons, List.not_mem_nil, or_false] at hv
      rcases hv with rfl | rfl | rfl | rfl <;> exact Mb.size ⟨Kb.zero_ok, by decide⟩) (by decide)
  simpa [Value.cells, flatC, four, Mb.arr] using this
/-- what four answers -/
def FourEnd (w : World) (e : Ending) (w' : World) : Prop := ∃ A, e = .returned (.agg #[.int .i64 0, .slice A 4 4]) ∧ MS w' A 4 four ∧ Below w.heap.size w w'
theorem four_M (w : World) : MS ((w.alloc (.cells #[.int .i64 0, .slice (some ⟨w.heap.size + 1, 0, none⟩) 4 4] 26)).alloc (.cells (flatC Mb.cells four).toArray 72)) (some ⟨w.heap.size + 1, 0, none⟩) 4 four := by
  have hg := heap_alloc_new (w.alloc (.cells #[.int .i64 0, .slice (some ⟨w.heap.size + 1, 0, none⟩) 4 4] 26)) (.cells (flatC Mb.cells four).toArray 72)
  have hl : (flatC Mb.cells four).length = 136 := by rw [flatC_length four_ok.len]; rfl
  have h := own_of_block (B := 0) (n := 4) (cap := 4) (sz := 34) (Nat.zero_le _) hg (Nat.le_refl _) (by decide) (by simpa using hl) (by rw [List.take_of_length_le (by simp [hl])])
  obtain ⟨A, cap, hv, M⟩ := MS_of_own h four_ok (by decide)
  have e : (w.alloc (.cells #[.int .i64 0, .slice (some ⟨w.heap.size + 1, 0, none⟩) 4 4] 26)).heap.size = w.heap.size + 1 := by simp
  rw [e] at hv
  cases hv
  exact M
theorem four_any (w : World) : Calls Tryd.prog 11 #[] w (FourEnd w) := by
  go_enter Tryd.func11, Tryd.ntmps11
  go_wp2_with fail
  refine bodyPost_ret (v := .agg #[.int .i64 0, .slice (some ⟨w.heap.size + 1, 0, none⟩) 4 4]) (by rw [results_cell1 Tryd.results11]; simp [go_sem, *]) rfl ?_
  exact ⟨_, rfl, four_M w, ((Below.refl _ _).alloc (Nat.le_refl _) _).alloc (by simp) _⟩

end Go.Proofs.YthaeofiplhbggaaDoor
