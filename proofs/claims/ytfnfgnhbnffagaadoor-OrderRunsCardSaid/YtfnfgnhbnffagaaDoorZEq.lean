/-
Two members are the same, or not: what the walk's comparison of two values of type Member says.
-/
import Derived.Test.YtfnfgnhbnffagaaDoorZMb
import Derived.DeepKeys2
namespace Go.Proofs.YtfnfgnhbnffagaaDoor
open Go.RowKit
set_option linter.unusedVariables false
set_option maxRecDepth 100000

theorem mapM_some_map {α β : Type} {f : α → Option β} {g : α → β} : ∀ {L : List α}, (∀ x ∈ L, f x = some (g x)) → L.mapM f = some (L.map g)
  | [], _ => rfl
  | x :: r, h => by
    rw [List.mapM_cons, h x (by simp), mapM_some_map (fun y hy => h y (by simp [hy]))]
    rfl

theorem keyLits_bytes {P : Program} {t e : TypeId} {n : Nat} (d : Nat) (hu : P.underlying t = some (.array n e)) (he : P.underlying e = some (.int .u8)) (hc : P.cellsOf e = 1) (ht : P.cellsOf t = n)
    (rs : List Int) (hl : rs.length = n) (hw : ∀ x ∈ rs, (Lit.int .u8 x).wf = true) : P.keyLits (d + 2) t (rs.map (Value.int .u8)) = some (rs.map (Lit.int .u8)) := by
  unfold Program.keyLits
  rw [hu]
  simp only [List.length_map, hl, ht, if_true, hc, Nat.mul_one]
  have key : ∀ i ∈ List.range n, P.keyLits (d + 1) e (((rs.map (Value.int .u8)).drop i).take 1) = some [Lit.int .u8 (rs.getD i 0)] := by
    intro i hi
    have hi' : i < rs.length := by rw [hl]; simpa using hi
    have e1 : ((rs.map (Value.int .u8)).drop i).take 1 = [Value.int .u8 (rs.getD i 0)] := by
      rw [List.drop_eq_getElem_cons (by simpa using hi')]
      simp [List.getD_eq_getElem?_getD, hi']
    rw [e1]
    unfold Program.keyLits
    rw [he]
    have : (Lit.int .u8 (rs.getD i 0)).wf = true := hw _ (by rw [List.getD_eq_getElem?_getD, List.getElem?_eq_getElem hi']; exact List.getElem_mem _)
    simp only [this, and_self, if_true]
  rw [mapM_some_map key]
  simp only [Option.map_some]
  congr 1
  have e2 : ∀ L : List Nat, (L.map fun i => [Lit.int .u8 (rs.getD i 0)]).flatten = L.map fun i => Lit.int .u8 (rs.getD i 0) := by
    intro L
    induction L with
    | nil => rfl
    | cons a L ih => simp only [List.map_cons, List.flatten_cons, ih, List.singleton_append]
  rw [e2]
  apply List.ext_getElem?
  intro i
  rw [List.getElem?_map, List.getElem?_map]
  by_cases hi : i < n
  · rw [List.getElem?_range hi, List.getElem?_eq_getElem (by omega)]
    simp [List.getD_eq_getElem?_getD, hl, hi]
  · rw [List.getElem?_eq_none (by simpa using hi), List.getElem?_eq_none (by omega)]
    rfl

def Kb.lits (k : Kb) : List Lit := k.root.map (Lit.int .u8) ++ [.int .i64 k.ht]
def Mb.lits (m : Mb) : List Lit := .int .i64 m.id :: m.key.lits

theorem cellsT_Digest : Tryd.prog.cellsOf 38 = 32 := by kernel_rfl
theorem cellsT_Key : Tryd.prog.cellsOf 40 = 33 := by kernel_rfl
theorem cellsT_Member : Tryd.prog.cellsOf 60 = 34 := by kernel_rfl
theorem cellsT_int : Tryd.prog.cellsOf 3 = 1 := by kernel_rfl
theorem cellsT_uint8 : Tryd.prog.cellsOf 5 = 1 := by kernel_rfl

theorem keyLits_int1 {P : Program} {t : TypeId} (d : Nat) (hu : P.underlying t = some (.int .i64)) {n : Int} (h : (Lit.int .i64 n).wf = true) : P.keyLits (d + 1) t [.int .i64 n] = some [.int .i64 n] := by
  unfold Program.keyLits
  rw [hu]
  simp only [h, and_self, if_true]

theorem Kb.keyLits {k : Kb} (h : k.ok) (d : Nat) : Tryd.prog.keyLits (d + 3) 40 k.cells = some k.lits := by
  have h1 := keyLits_bytes d Tryd.underlying38 Tryd.underlying5 cellsT_uint8 cellsT_Digest k.root h.len h.roots
  have h2 := keyLits_int1 (d + 1) Tryd.underlying3 h.ht
  have e1 : (k.cells.drop 0).take 32 = k.root.map (Value.int .u8) := by
    unfold Kb.cells
    rw [List.drop_zero, List.take_append_of_le_length (by simp [h.len]), List.take_of_length_le (by simp [h.len])]
  have e2 : (k.cells.drop 32).take 1 = [Value.int .i64 k.ht] := by
    unfold Kb.cells
    rw [List.drop_append_of_le_length (by simp [h.len]), List.drop_of_length_le (by simp [h.len])]
    rfl
  unfold Program.keyLits
  rw [Tryd.underlying40]
  simp only [Kb.len h, cellsT_Key]
  rw [if_pos ⟨trivial, by kernel_rfl⟩]
  simp only [List.mapM_cons, List.mapM_nil, cellsT_Digest, cellsT_int, e1, e2, h1, h2]
  rfl

theorem Mb.keyLits {m : Mb} (h : m.ok) (d : Nat) : Tryd.prog.keyLits (d + 4) 60 m.cells = some m.lits := by
  have h1 := m.key.keyLits h.key d
  have h2 := keyLits_int1 (d + 2) Tryd.underlying3 h.id
  have e1 : (m.cells.drop 0).take 1 = [Value.int .i64 m.id] := rfl
  have e2 : (m.cells.drop 1).take 33 = m.key.cells := by
    unfold Mb.cells
    rw [List.drop_succ_cons, List.drop_zero, List.take_of_length_le (by simp [Kb.len h.key])]
  unfold Program.keyLits
  rw [Tryd.underlying60]
  simp only [Mb.len h, cellsT_Member]
  rw [if_pos ⟨trivial, by kernel_rfl⟩]
  simp only [List.mapM_cons, List.mapM_nil, cellsT_Key, cellsT_int, e1, e2, h1, h2]
  simp [Mb.lits]

theorem Mb.lits_inj {m k : Mb} (hm : m.ok) (hk : k.ok) (h : m.lits = k.lits) : m = k := by
  refine Mb.inj hm hk ?_
  have e : ∀ x : Mb, x.cells = x.lits.map Lit.toCell := by
    intro x
    simp only [Mb.cells, Mb.lits, Kb.cells, Kb.lits, List.map_cons, List.map_append, List.map_map, List.map_nil]
    rfl
  rw [e, e, h]

theorem run_eq_Member {m k : Mb} (hm : m.ok) (hk : k.ok) (w : World) : (Op.equal 60 (.agg m.arr) (.agg k.arr)).run Tryd.prog w = .ok (decide (m = k)) w := by
  have f : ∀ {x : Mb}, x.ok → (Value.agg x.arr).formed Tryd.prog 60 = true := by
    intro x hx
    have := Mb.size hx
    simp [Value.formed, Tryd.underlying60, cellsT_Member, this]
  obtain ⟨r, h1, h2⟩ := run_equalIn_deep (P := Tryd.prog) 9994 6 60 (by kernel_rfl) w 4 4 (.agg m.arr) (.agg k.arr) m.lits k.lits (f hm) (f hk) (by simpa [Value.cells, Mb.arr] using m.keyLits hm 0) (by simpa [Value.cells, Mb.arr] using k.keyLits hk 0)
  have h3 : (Op.equal 60 (.agg m.arr) (.agg k.arr)).run Tryd.prog w = .ok r w := h1
  rw [h3]
  congr 1
  rw [Bool.eq_iff_iff, h2, decide_eq_true_eq]
  exact ⟨fun h => Mb.lits_inj hm hk h, fun h => by rw [h]⟩

/-- the walk's words for the comparison of two members -/
def eqRow (t : TypeId) (xs ys : Array Value) : Sem Value := binOp .eql t (.agg xs) (.agg ys)
def neRow (t : TypeId) (xs ys : Array Value) : Sem Value := binOp .neq t (.agg xs) (.agg ys)
@[go_sem] theorem eqRow_Member (xs ys : Array Value) : binOp .eql 60 (.agg xs) (.agg ys) = eqRow 60 xs ys := rfl
@[go_sem] theorem neRow_Member (xs ys : Array Value) : binOp .neq 60 (.agg xs) (.agg ys) = neRow 60 xs ys := rfl
theorem run_eqRow {m k : Mb} (hm : m.ok) (hk : k.ok) (w : World) : (eqRow 60 m.arr k.arr).run Tryd.prog w = .ok (.bool (decide (m = k))) w := by
  unfold eqRow
  simp only [binOp, Sem.run_bind, run_eq_Member hm hk w, Result.andThen_ok, Sem.run_pure]
theorem run_neRow {m k : Mb} (hm : m.ok) (hk : k.ok) (w : World) : (neRow 60 m.arr k.arr).run Tryd.prog w = .ok (.bool (!decide (m = k))) w := by
  unfold neRow
  simp only [binOp, Sem.run_bind, run_eq_Member hm hk w, Result.andThen_ok, Sem.run_pure]

end Go.Proofs.YtfnfgnhbnffagaaDoor
