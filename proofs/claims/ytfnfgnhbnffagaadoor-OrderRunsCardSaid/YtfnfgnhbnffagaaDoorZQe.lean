/-
Two requests are the same, or not.
-/
import Derived.Test.YtfnfgnhbnffagaaDoorZMp
import Derived.Test.YtfnfgnhbnffagaaDoorZEq
import Derived.DeepKeys2
namespace Go.Proofs.YtfnfgnhbnffagaaDoor
open Go.RowKit
set_option linter.unusedVariables false
set_option linter.unusedSimpArgs false
set_option maxRecDepth 100000
def Chg.lits (x : Chg) : List Lit := .int .i64 x.kind :: .int .i64 x.id :: .int .i64 x.nw :: x.key.lits
def Opn.lits (x : Opn) : List Lit := .int .i64 x.kind :: .string x.key.data.toList :: .string x.val.data.toList :: .string x.old.data.toList :: x.chg.lits
def Rq.lits (x : Rq) : List Lit := .int .i64 x.client :: .int .i64 x.num :: x.op.lits
theorem cellsT_Change : Tryd.prog.cellsOf 42 = 36 := by kernel_rfl
theorem cellsT_Op : Tryd.prog.cellsOf 44 = 40 := by kernel_rfl
theorem cellsT_Request : Tryd.prog.cellsOf 46 = 42 := by kernel_rfl
theorem cellsT_string : Tryd.prog.cellsOf 9 = 1 := by kernel_rfl
theorem keyLits_str {P : Program} {t : TypeId} (d : Nat) (hu : P.underlying t = some .string) {s : ByteArray} (h : s.size ≤ 140737488355328) : P.keyLits (d + 1) t [.string s] = some [.string s.data.toList] := by
  unfold Program.keyLits
  rw [hu]
  simp only [if_pos (show s.size ≤ maxLen by simp only [maxLen]; omega)]
theorem Chg.keyLits {x : Chg} (h : x.ok) (d : Nat) : Tryd.prog.keyLits (d + 4) 42 x.cells = some x.lits := by
  have h1 := keyLits_int1 (d + 2) Tryd.underlying3 h.kind
  have h2 := keyLits_int1 (d + 2) Tryd.underlying3 h.id
  have h3 := keyLits_int1 (d + 2) Tryd.underlying3 h.nw
  have h4 := Kb.keyLits h.key d
  have e4 : (x.cells.drop 3).take 33 = x.key.cells := by
    unfold Chg.cells
    simp only [List.drop_succ_cons, List.drop_zero]
    exact List.take_of_length_le (by simp [Kb.len h.key])
  have e1 : (x.cells.drop 0).take 1 = [Value.int .i64 x.kind] := rfl
  have e2 : (x.cells.drop 1).take 1 = [Value.int .i64 x.id] := rfl
  have e3 : (x.cells.drop 2).take 1 = [Value.int .i64 x.nw] := rfl
  unfold Program.keyLits
  rw [Tryd.underlying42]
  simp only [Chg.len h, cellsT_Change]
  rw [if_pos ⟨trivial, by kernel_rfl⟩]
  simp only [List.mapM_cons, List.mapM_nil, cellsT_Key, cellsT_int, e1, e2, e3, e4, h1, h2, h3, h4]
  simp [Chg.lits]
theorem Opn.keyLits {x : Opn} (h : x.ok) (d : Nat) : Tryd.prog.keyLits (d + 5) 44 x.cells = some x.lits := by
  have h1 := keyLits_int1 (d + 3) Tryd.underlying3 h.kind
  have h2 := keyLits_str (d + 3) Tryd.underlying9 h.key
  have h3 := keyLits_str (d + 3) Tryd.underlying9 h.val
  have h4 := keyLits_str (d + 3) Tryd.underlying9 h.old
  have h5 := Chg.keyLits h.chg d
  have e5 : (x.cells.drop 4).take 36 = x.chg.cells := by
    unfold Opn.cells
    simp only [List.drop_succ_cons, List.drop_zero]
    exact List.take_of_length_le (by rw [Chg.len h.chg]; decide)
  have e1 : (x.cells.drop 0).take 1 = [Value.int .i64 x.kind] := rfl
  have e2 : (x.cells.drop 1).take 1 = [Value.string x.key] := rfl
  have e3 : (x.cells.drop 2).take 1 = [Value.string x.val] := rfl
  have e4 : (x.cells.drop 3).take 1 = [Value.string x.old] := rfl
  unfold Program.keyLits
  rw [Tryd.underlying44]
  simp only [Opn.len h, cellsT_Op]
  rw [if_pos ⟨trivial, by kernel_rfl⟩]
  simp only [List.mapM_cons, List.mapM_nil, cellsT_Change, cellsT_int, cellsT_string, e1, e2, e3, e4, e5, h1, h2, h3, h4, h5]
  simp [Opn.lits]
theorem Rq.keyLits {x : Rq} (h : x.ok) (d : Nat) : Tryd.prog.keyLits (d + 6) 46 x.cells = some x.lits := by
  have h1 := keyLits_int1 (d + 4) Tryd.underlying3 h.c
  have h2 := keyLits_int1 (d + 4) Tryd.underlying3 h.n
  have h3 := Opn.keyLits h.op d
  have e3 : (x.cells.drop 2).take 40 = x.op.cells := by
    unfold Rq.cells
    simp only [List.drop_succ_cons, List.drop_zero]
    exact List.take_of_length_le (by rw [Opn.len h.op]; decide)
  have e1 : (x.cells.drop 0).take 1 = [Value.int .i64 x.client] := rfl
  have e2 : (x.cells.drop 1).take 1 = [Value.int .i64 x.num] := rfl
  unfold Program.keyLits
  rw [Tryd.underlying46]
  simp only [Rq.len h, cellsT_Request]
  rw [if_pos ⟨trivial, by kernel_rfl⟩]
  simp only [List.mapM_cons, List.mapM_nil, cellsT_Op, cellsT_int, e1, e2, e3, h1, h2, h3]
  simp [Rq.lits]
/-- are they the same? -/
noncomputable def rqEq (a b : Rq) : Bool := @decide (a.lits = b.lits) (Classical.propDecidable _)
theorem rqEq_self (a : Rq) : rqEq a a = true := by simp [rqEq]
theorem run_eq_Request {m k : Rq} (hm : m.ok) (hk : k.ok) (w : World) : (Op.equal 46 (.agg m.arr) (.agg k.arr)).run Tryd.prog w = .ok (rqEq m k) w := by
  have f : ∀ {x : Rq}, x.ok → (Value.agg x.arr).formed Tryd.prog 46 = true := by
    intro x hx
    have := Rq.size hx
    simp [Value.formed, Tryd.underlying46, cellsT_Request, this]
  obtain ⟨r, h1, h2⟩ := run_equalIn_deep (P := Tryd.prog) 9992 8 46 (by kernel_rfl) w 6 6 (.agg m.arr) (.agg k.arr) m.lits k.lits (f hm) (f hk) (by simpa [Value.cells, Rq.arr] using m.keyLits hm 0) (by simpa [Value.cells, Rq.arr] using k.keyLits hk 0)
  have h3 : (Op.equal 46 (.agg m.arr) (.agg k.arr)).run Tryd.prog w = .ok r w := h1
  rw [h3]
  congr 1
  unfold rqEq
  rw [Bool.eq_iff_iff, h2, @decide_eq_true_eq _ (Classical.propDecidable _)]
def neRq (xs ys : Array Value) : Sem Value := binOp .neq 46 (.agg xs) (.agg ys)
@[go_sem] theorem neRq_Request (xs ys : Array Value) : binOp .neq 46 (.agg xs) (.agg ys) = neRq xs ys := rfl
theorem run_neRq {m k : Rq} (hm : m.ok) (hk : k.ok) (w : World) : (neRq m.arr k.arr).run Tryd.prog w = .ok (.bool (!rqEq m k)) w := by
  unfold neRq
  simp only [binOp, Sem.run_bind, run_eq_Request hm hk w, Result.andThen_ok, Sem.run_pure]
end Go.Proofs.YtfnfgnhbnffagaaDoor
