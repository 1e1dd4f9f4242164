/-
Requests in memory, and whether they can be: the program's own answer is the reference's.
-/
import Derived.Test.YtfnfgnhbnffagaaDoorZPr
import Derived.WalkSmall
namespace Go.Proofs.YtfnfgnhbnffagaaDoor
open Go.RowKit
set_option linter.unusedVariables false
set_option linter.unusedSimpArgs false
def Chg.zero : Chg := ⟨0, 0, 0, Kb.zero⟩
theorem Chg.zero_ok : Chg.zero.ok := ⟨by decide, by decide, by decide, Kb.zero_ok⟩
theorem chg_ones (x : Chg) : ∀ u ∈ x.cells, u.oneCell' = true := by
  intro v hv
  simp only [Chg.cells, Kb.cells, List.mem_cons, List.mem_append, List.mem_map, List.not_mem_nil, or_false] at hv
  rcases hv with rfl | rfl | rfl | ⟨_, _, rfl⟩ | rfl <;> rfl
theorem Chg.len {x : Chg} (h : x.ok) : x.cells.length = 36 := by simp [Chg.cells, Kb.len h.key]
/-- an operation -/
structure Opn where
  kind : Int
  key : ByteArray
  val : ByteArray
  old : ByteArray
  chg : Chg
instance : Inhabited Opn := ⟨⟨0, ByteArray.empty, ByteArray.empty, ByteArray.empty, Chg.zero⟩⟩
def Opn.cells (x : Opn) : List Value := .int .i64 x.kind :: .string x.key :: .string x.val :: .string x.old :: x.chg.cells
def Opn.arr (x : Opn) : Array Value := x.cells.toArray
structure Opn.ok (x : Opn) : Prop where
  kind : (Lit.int .i64 x.kind).wf = true
  key : x.key.size ≤ 140737488355328
  val : x.val.size ≤ 140737488355328
  old : x.old.size ≤ 140737488355328
  chg : x.chg.ok
theorem Opn.len {x : Opn} (h : x.ok) : x.cells.length = 40 := by simp [Opn.cells, Chg.len h.chg]
theorem Opn.size {x : Opn} (h : x.ok) : x.arr.size = 40 := by simp [Opn.arr, Opn.len h]
theorem Opn.sz {x : Opn} (h : x.ok) : SizeIs x.arr 40 := Opn.size h
theorem Opn.at0 (x : Opn) : x.arr[0]? = some (.int .i64 x.kind) := by simp [Opn.arr, Opn.cells]
theorem Opn.at1 (x : Opn) : x.arr[1]? = some (.string x.key) := by simp [Opn.arr, Opn.cells]
theorem Opn.at2 (x : Opn) : x.arr[2]? = some (.string x.val) := by simp [Opn.arr, Opn.cells]
theorem Opn.at3 (x : Opn) : x.arr[3]? = some (.string x.old) := by simp [Opn.arr, Opn.cells]
theorem opn_ones (x : Opn) : ∀ u ∈ x.cells, u.oneCell' = true := by
  intro v hv
  simp only [Opn.cells, List.mem_cons] at hv
  rcases hv with rfl | rfl | rfl | rfl | hv
  iterate 4 rfl
  exact chg_ones _ v hv
theorem ones_of {l : List Value} (h : ∀ u ∈ l, u.oneCell' = true) : oneCells l.toArray = true := by
  unfold oneCells
  rw [Array.all_eq_true_iff_forall_mem]
  intro v hv
  exact h v (by simpa using hv)
theorem Opn.ones (x : Opn) : oneCells x.arr = true := ones_of (opn_ones x)
theorem Opn.cutChg {x : Opn} (h : x.ok) : Go.Proofs.YtfnfgnhbnffagaaDoor.cut x.arr 4 36 = some x.chg.arr := by
  unfold Go.Proofs.YtfnfgnhbnffagaaDoor.cut
  rw [Opn.size h, if_pos (by decide)]
  congr 1
  apply Array.ext'
  rw [Array.toList_extract, List.extract_eq_take_drop]
  show (x.cells.drop 4).take 36 = x.chg.cells
  unfold Opn.cells
  simp only [List.drop_succ_cons, List.drop_zero]
  exact List.take_of_length_le (by rw [Chg.len h.chg]; decide)
/-- a request -/
structure Rq where
  client : Int
  num : Int
  op : Opn
instance : Inhabited Rq := ⟨⟨0, 0, default⟩⟩
def Rq.cells (x : Rq) : List Value := .int .i64 x.client :: .int .i64 x.num :: x.op.cells
def Rq.arr (x : Rq) : Array Value := x.cells.toArray
structure Rq.ok (x : Rq) : Prop where
  c : (Lit.int .i64 x.client).wf = true
  n : (Lit.int .i64 x.num).wf = true
  op : x.op.ok
theorem Rq.len {x : Rq} (h : x.ok) : x.cells.length = 42 := by simp [Rq.cells, Opn.len h.op]
theorem Rq.size {x : Rq} (h : x.ok) : x.arr.size = 42 := by simp [Rq.arr, Rq.len h]
theorem Rq.sz {x : Rq} (h : x.ok) : SizeIs x.arr 42 := Rq.size h
theorem Rq.at0 (x : Rq) : x.arr[0]? = some (.int .i64 x.client) := by simp [Rq.arr, Rq.cells]
theorem Rq.at1 (x : Rq) : x.arr[1]? = some (.int .i64 x.num) := by simp [Rq.arr, Rq.cells]
theorem Rq.at2 (x : Rq) : x.arr[2]? = some (.int .i64 x.op.kind) := by simp [Rq.arr, Rq.cells, Opn.cells]
theorem Rq.at3 (x : Rq) : x.arr[3]? = some (.string x.op.key) := by simp [Rq.arr, Rq.cells, Opn.cells]
theorem Rq.at4 (x : Rq) : x.arr[4]? = some (.string x.op.val) := by simp [Rq.arr, Rq.cells, Opn.cells]
theorem Rq.at5 (x : Rq) : x.arr[5]? = some (.string x.op.old) := by simp [Rq.arr, Rq.cells, Opn.cells]
theorem rq_ones (x : Rq) : ∀ u ∈ x.cells, u.oneCell' = true := by
  intro v hv
  simp only [Rq.cells, List.mem_cons] at hv
  rcases hv with rfl | rfl | hv
  iterate 2 rfl
  exact opn_ones _ v hv
theorem Rq.ones (x : Rq) : oneCells x.arr = true := ones_of (rq_ones x)
theorem Rq.cutOp {x : Rq} (h : x.ok) : Go.Proofs.YtfnfgnhbnffagaaDoor.cut x.arr 2 40 = some x.op.arr := by
  unfold Go.Proofs.YtfnfgnhbnffagaaDoor.cut
  rw [Rq.size h, if_pos (by decide)]
  congr 1
  apply Array.ext'
  rw [Array.toList_extract, List.extract_eq_take_drop]
  show (x.cells.drop 2).take 40 = x.op.cells
  unfold Rq.cells
  simp only [List.drop_succ_cons, List.drop_zero]
  exact List.take_of_length_le (by rw [Opn.len h.op]; decide)
@[go_sem ↓] theorem lv_Op (a : Addr) : loadVar 44 a = ldVar 44 a := rfl
@[go_sem ↓] theorem sv_Op (a : Addr) (v : Value) : storeVar 44 a v = stVar 44 a v := rfl
@[go_sem] theorem run_lv_Op (w : World) (b o : Nat) : (ldVar 44 ⟨b, o, none⟩).run Tryd.prog w = match rowAt w b o 40 with | some cs => .ok (.agg cs) w | none => (ldRaw 44 ⟨b, o, none⟩).run Tryd.prog w :=
  run_ldVar w 44 b o 40 _ Tryd.underlying44 rfl (by kernel_rfl)
@[go_sem] theorem run_sv_Op (w : World) (b : Nat) (cs : Array Value) : (stVar 44 ⟨b, 0, none⟩ (.agg cs)).run Tryd.prog w = match putRow w b 40 cs with | some w' => .ok () w' | none => (stRaw 44 ⟨b, 0, none⟩ (.agg cs)).run Tryd.prog w :=
  run_stVar w 44 b 40 cs (by kernel_rfl)
@[go_sem ↓] theorem lv_Request (a : Addr) : loadVar 46 a = ldVar 46 a := rfl
@[go_sem ↓] theorem sv_Request (a : Addr) (v : Value) : storeVar 46 a v = stVar 46 a v := rfl
@[go_sem] theorem run_lv_Request (w : World) (b o : Nat) : (ldVar 46 ⟨b, o, none⟩).run Tryd.prog w = match rowAt w b o 42 with | some cs => .ok (.agg cs) w | none => (ldRaw 46 ⟨b, o, none⟩).run Tryd.prog w :=
  run_ldVar w 46 b o 42 _ Tryd.underlying46 rfl (by kernel_rfl)
@[go_sem] theorem run_sv_Request (w : World) (b : Nat) (cs : Array Value) : (stVar 46 ⟨b, 0, none⟩ (.agg cs)).run Tryd.prog w = match putRow w b 42 cs with | some w' => .ok () w' | none => (stRaw 46 ⟨b, 0, none⟩ (.agg cs)).run Tryd.prog w :=
  run_stVar w 46 b 42 cs (by kernel_rfl)
@[go_sem ↓] theorem lv_Change (a : Addr) : loadVar 42 a = ldVar 42 a := rfl
@[go_sem] theorem run_lv_Change (w : World) (b o : Nat) : (ldVar 42 ⟨b, o, none⟩).run Tryd.prog w = match rowAt w b o 36 with | some cs => .ok (.agg cs) w | none => (ldRaw 42 ⟨b, o, none⟩).run Tryd.prog w :=
  run_ldVar w 42 b o 36 _ Tryd.underlying42 rfl (by kernel_rfl)
@[go_sem] theorem Opn.zero_sz : SizeIs (default : Opn).arr 40 := by unfold SizeIs; kernel_rfl
@[go_sem] theorem Opn.zero_ones : oneCells (default : Opn).arr = true := Opn.ones _
@[go_sem] theorem Rq.zero_sz : SizeIs (default : Rq).arr 42 := by unfold SizeIs; kernel_rfl
@[go_sem] theorem Rq.zero_ones : oneCells (default : Rq).arr = true := Rq.ones _
@[go_sem ↓] theorem zv_Op (w : World) : (zeroValue 44).run Tryd.prog w = .ok (.agg (default : Opn).arr) w := by
  have h : (Tryd.prog.info? 44).map (fun i => (i.zero, i.size)) = some (some (.agg (default : Opn).arr), 40) := by kernel_rfl
  exact (zero_of_info h).1 w
@[go_sem ↓] theorem zv_Request (w : World) : (zeroValue 46).run Tryd.prog w = .ok (.agg (default : Rq).arr) w := by
  have h : (Tryd.prog.info? 46).map (fun i => (i.zero, i.size)) = some (some (.agg (default : Rq).arr), 42) := by kernel_rfl
  exact (zero_of_info h).1 w
def rqGood (q : Rq) : Bool := decide (1 ≤ q.client ∧ q.client ≤ 64 ∧ 1 ≤ q.num ∧ q.num ≤ 1099511627776 ∧ 1 ≤ q.op.kind ∧ q.op.kind ≤ 7 ∧ q.op.key.size ≤ 1024 ∧ q.op.val.size ≤ 1024 ∧ q.op.old.size ≤ 1024)
theorem ret_bool {a b : Bool} (h : a = b) : Ending.returned (Value.bool a) = .returned (.bool b) := by rw [h]
set_option maxRecDepth 100000 in
theorem short_any (g : Nat) (a b c : ByteArray) (w : World) (h0 : w.cell? ⟨g, 0, none⟩ = some (.string a)) (h1 : w.cell? ⟨g, 1, none⟩ = some (.string b)) (h2 : w.cell? ⟨g, 2, none⟩ = some (.string c)) :
    Calls Tryd.prog 28 #[.slice (some ⟨g, 0, none⟩) 3 3] w fun e w' => e = .returned (.bool (decide (a.size ≤ 1024 ∧ b.size ≤ 1024 ∧ c.size ≤ 1024))) ∧ w = w' := by
  by_cases ha : a.size ≤ 1024
  · have ha' : ¬ (1024 : Int) < a.size := by omega
    by_cases hb : b.size ≤ 1024
    · have hb' : ¬ (1024 : Int) < b.size := by omega
      by_cases hc : c.size ≤ 1024
      · have hc' : ¬ (1024 : Int) < c.size := by omega
        have hr := Lib.hid (show decide (a.size ≤ 1024 ∧ b.size ≤ 1024 ∧ c.size ≤ 1024) = true from decide_eq_true ⟨ha, hb, hc⟩)
        go_enter Tryd.func28, Tryd.ntmps28
        go_wp2_with fail
        refine wp_loop_rounds 4 ?_
        rw [rounds_succ]
        go_wp2_with fail
        rw [rounds_succ]
        go_wp2_with fail
        rw [rounds_succ]
        go_wp2_with fail
        rw [rounds_succ]
        go_wp2_with fail
        go_ret
        exact ⟨by rw [hr.out]; rfl, rfl⟩
      · have hc' : (1024 : Int) < c.size := by omega
        have hr := Lib.hid (show decide (a.size ≤ 1024 ∧ b.size ≤ 1024 ∧ c.size ≤ 1024) = false from decide_eq_false (fun h => hc h.2.2))
        go_enter Tryd.func28, Tryd.ntmps28
        go_wp2_with fail
        refine wp_loop_rounds 3 ?_
        rw [rounds_succ]
        go_wp2_with fail
        rw [rounds_succ]
        go_wp2_with fail
        rw [rounds_succ]
        go_wp2_with fail
        go_ret
        exact ⟨by rw [hr.out]; rfl, rfl⟩
    · have hb' : (1024 : Int) < b.size := by omega
      have hr := Lib.hid (show decide (a.size ≤ 1024 ∧ b.size ≤ 1024 ∧ c.size ≤ 1024) = false from decide_eq_false (fun h => hb h.2.1))
      go_enter Tryd.func28, Tryd.ntmps28
      go_wp2_with fail
      refine wp_loop_rounds 2 ?_
      rw [rounds_succ]
      go_wp2_with fail
      rw [rounds_succ]
      go_wp2_with fail
      go_ret
      exact ⟨by rw [hr.out]; rfl, rfl⟩
  · have ha' : (1024 : Int) < a.size := by omega
    have hr := Lib.hid (show decide (a.size ≤ 1024 ∧ b.size ≤ 1024 ∧ c.size ≤ 1024) = false from decide_eq_false (fun h => ha h.1))
    go_enter Tryd.func28, Tryd.ntmps28
    go_wp2_with fail
    refine wp_loop_rounds 1 ?_
    rw [rounds_succ]
    go_wp2_with fail
    go_ret
    exact ⟨by rw [hr.out]; rfl, rfl⟩
set_option maxHeartbeats 1000000 in
theorem refGood09_any {q : Rq} (h : q.ok) (w : World) : Calls Tryd.prog 12 #[.agg q.arr] w fun e w' => e = .returned (.bool (rqGood q)) ∧ Below w.heap.size w w' := by
  have q0 := q.at0
  have q1 := q.at1
  have q2 := q.at2
  have q3 := q.at3
  have q4 := q.at4
  have q5 := q.at5
  have qc := Rq.cutOp h
  clear h
  go_enter Tryd.func12, Tryd.ntmps12
  go_wp2_with fail
  all_goals
    go_ret
    refine ⟨?_, (Below.refl _ _).alloc (Nat.le_refl _) _⟩
    refine ret_bool ?_
    unfold rqGood
    first
      | (symm; rw [decide_eq_false_iff_not]; omega)
      | (rw [decide_eq_decide]; omega)
      | (simp only [go_sem] at *; symm; rw [decide_eq_false_iff_not]; omega)
set_option maxHeartbeats 1000000 in
theorem qGood_any {q : Rq} (h : q.ok) (w : World) : Calls Tryd.prog 18 #[.agg q.arr] w fun e w' => e = .returned (.bool (rqGood q)) ∧ Below w.heap.size w w' := by
  have q0 := q.at0
  have q1 := q.at1
  have qc := Rq.cutOp h
  have o0 := q.op.at0
  have o1 := q.op.at1
  have o2 := q.op.at2
  have o3 := q.op.at3
  have s1 := Opn.zero_sz
  have s2 := Opn.sz h.op
  have s3 := Opn.ones q.op
  have hg : 1 ≤ q.client → q.client ≤ 64 → 1 ≤ q.num → q.num ≤ 1099511627776 → 1 ≤ q.op.kind → q.op.kind ≤ 7 → rqGood q = decide (q.op.key.size ≤ 1024 ∧ q.op.val.size ≤ 1024 ∧ q.op.old.size ≤ 1024) := by
    intros
    unfold rqGood
    rw [decide_eq_decide]
    omega
  have hb : ¬ (1 ≤ q.client ∧ q.client ≤ 64 ∧ 1 ≤ q.num ∧ q.num ≤ 1099511627776 ∧ 1 ≤ q.op.kind ∧ q.op.kind ≤ 7) → rqGood q = false := by
    intro h
    unfold rqGood
    rw [decide_eq_false_iff_not]
    omega
  generalize rqGood q = R at hg hb ⊢
  have HG := Lib.hid hg
  have HB := Lib.hid hb
  clear hg hb h
  go_enter Tryd.func18, Tryd.ntmps18
  go_wp2_with fail
  case isTrue =>
    refine (short_any _ q.op.key q.op.val q.op.old _ (by simp [World.cell?_alloc_at]) (by simp [World.cell?_alloc_at]) (by simp [World.cell?_alloc_at])).mono ?_
    rintro e w' ⟨rfl, rfl⟩
    go_wp2_with fail
    go_ret
    refine ⟨ret_bool ?_, (((Below.refl _ _).alloc (Nat.le_refl _) _).alloc (by simp) _).alloc (by simp; omega) _⟩
    rw [HG.out (by omega) (by omega) (by omega) (by omega) (by omega) (by omega)]
    simp
  all_goals
    go_ret
    refine ⟨ret_bool ?_, ((Below.refl _ _).alloc (Nat.le_refl _) _).alloc (by simp) _⟩
    exact (HB.out (by omega)).symm
end Go.Proofs.YtfnfgnhbnffagaaDoor
