/-
Members, keys, changes and configurations of the package api: as data, as cells, and as the walk reads and writes them whole.
-/
import Derived.Test.YtfnfgnhbnffagaaDoorRows
import Derived.Test.YtfnfgnhbnffagaaDoorZBase
import Derived.ProofKit
import Derived.Lib.Hide
import Derived.LoopTactic
import Derived.WalkLawsBesides
namespace Go.Proofs.YtfnfgnhbnffagaaDoor
open Go.RowKit
set_option linter.unusedVariables false

structure Kb where
  root : List Int
  ht : Int
  deriving DecidableEq, Inhabited
structure Mb where
  id : Int
  key : Kb
  deriving DecidableEq, Inhabited
def Kb.cells (k : Kb) : List Value := k.root.map (Value.int .u8) ++ [.int .i64 k.ht]
def Mb.cells (m : Mb) : List Value := .int .i64 m.id :: m.key.cells
def Kb.arr (k : Kb) : Array Value := k.cells.toArray
def Mb.arr (m : Mb) : Array Value := m.cells.toArray
structure Kb.ok (k : Kb) : Prop where
  len : k.root.length = 32
  roots : ∀ x ∈ k.root, (Lit.int .u8 x).wf = true
  ht : (Lit.int .i64 k.ht).wf = true
structure Mb.ok (m : Mb) : Prop where
  key : m.key.ok
  id : (Lit.int .i64 m.id).wf = true
theorem Kb.len {k : Kb} (h : k.ok) : k.cells.length = 33 := by
  simp [Kb.cells, h.len]
theorem Mb.len {m : Mb} (h : m.ok) : m.cells.length = 34 := by
  simp [Mb.cells, Kb.len h.key]
theorem Mb.size {m : Mb} (h : m.ok) : m.arr.size = 34 := by
  simp [Mb.arr, m.len h]
theorem Kb.size {k : Kb} (h : k.ok) : k.arr.size = 33 := by
  simp [Kb.arr, k.len h]
theorem Mb.sz {m : Mb} (h : m.ok) : SizeIs m.arr 34 := Mb.size h
theorem Mb.cut {m : Mb} (h : m.ok) : cut m.arr 0 34 = some m.arr := cut_all _ _ (Mb.size h)
theorem Mb.ones (m : Mb) : oneCells m.arr = true := by
  unfold oneCells
  refine all_oneCell_toArray ?_
  intro v hv
  simp only [Mb.cells, Kb.cells, List.mem_cons, List.mem_append, List.mem_map, List.not_mem_nil, or_false] at hv
  rcases hv with rfl | ⟨_, _, rfl⟩ | rfl <;> rfl
theorem Mb.at0 (m : Mb) : m.arr[0]? = some (.int .i64 m.id) := by simp [Mb.arr, Mb.cells]
theorem Mb.at33 {m : Mb} (h : m.ok) : m.arr[33]? = some (.int .i64 m.key.ht) := by
  have := h.key.len
  simp [Mb.arr, Mb.cells, Kb.cells, this]

/-- the walk's words for a variable of type Member -/
@[go_sem ↓] theorem lv_Member (a : Addr) : loadVar 60 a = ldVar 60 a := rfl
@[go_sem ↓] theorem sv_Member (a : Addr) (v : Value) : storeVar 60 a v = stVar 60 a v := rfl
@[go_sem] theorem run_lv_Member (w : World) (b o : Nat) : (ldVar 60 ⟨b, o, none⟩).run Tryd.prog w = match rowAt w b o 34 with | some cs => .ok (.agg cs) w | none => (ldRaw 60 ⟨b, o, none⟩).run Tryd.prog w :=
  run_ldVar w 60 b o 34 _ Tryd.underlying60 rfl (by kernel_rfl)
@[go_sem] theorem run_sv_Member (w : World) (b : Nat) (cs : Array Value) : (stVar 60 ⟨b, 0, none⟩ (.agg cs)).run Tryd.prog w = match putRow w b 34 cs with | some w' => .ok () w' | none => (stRaw 60 ⟨b, 0, none⟩ (.agg cs)).run Tryd.prog w :=
  run_stVar w 60 b 34 cs (by kernel_rfl)

/-- a member without a number, a key without a root -/
def Kb.zero : Kb := ⟨List.replicate 32 0, 0⟩
def Mb.zero : Mb := ⟨0, Kb.zero⟩
theorem Kb.zero_ok : Kb.zero.ok := ⟨by decide, by decide, by decide⟩
theorem Mb.zero_ok : Mb.zero.ok := ⟨Kb.zero_ok, by decide⟩
@[go_sem] theorem Mb.zero_sz : SizeIs Mb.zero.arr 34 := Mb.size Mb.zero_ok
@[go_sem] theorem Mb.zero_ones : oneCells Mb.zero.arr = true := Mb.zero.ones
@[go_sem] theorem Mb.zero_cut : Go.Proofs.YtfnfgnhbnffagaaDoor.cut Mb.zero.arr 0 34 = some Mb.zero.arr := Mb.cut Mb.zero_ok
@[go_sem ↓] theorem zv_Member (w : World) : (zeroValue 60).run Tryd.prog w = .ok (.agg Mb.zero.arr) w := by
  have h : (Tryd.prog.info? 60).map (fun i => (i.zero, i.size)) = some (some (.agg Mb.zero.arr), 34) := by kernel_rfl
  exact (zero_of_info h).1 w

/-- a member is built -/
def bdRow (t : TypeId) (ps : Array (Nat × Value)) : Sem Value := Instr.build t ps
@[go_sem ↓] theorem bd_Member (ps : Array (Nat × Value)) : Instr.build 60 ps = bdRow 60 ps := rfl
theorem places_Member (w : World) : ((#[{ name := "Id", type := 3, offset := 0, embedded := false, tag := "", pkgPath := "", byteOffset := 0 }, { name := "Key", type := 40, offset := 1, embedded := false, tag := "", pkgPath := "", byteOffset := 8 }] : Array Field).mapM fun (f : Field) => (do pure (f.offset, ← sizeOf f.type) : Sem (Nat × Nat))).run Tryd.prog w = .ok #[(0, 1), (1, 33)] w := by kernel_rfl
theorem run_bd (w : World) (ps : Array (Nat × Value)) (cells : Array Value) (hf : Instr.fill ((#[(0, 1), (1, 33)] : Array (Nat × Nat))[·]?) Mb.zero.arr ps.toList = some cells) : (bdRow 60 ps).run Tryd.prog w = .ok (.agg cells) w :=
  run_build w 60 Mb.zero.arr cells _ _ ps (zv_Member w) Tryd.underlying60 (places_Member w) hf
@[go_sem] theorem run_bd_zero (w : World) : (bdRow 60 #[]).run Tryd.prog w = .ok (.agg Mb.zero.arr) w := run_bd w _ _ rfl
theorem lay_id (i : Int) : lay Mb.zero.arr 0 (Value.int .i64 i).cells = Mb.arr ⟨i, Kb.zero⟩ := by
  kernel_rfl
@[go_sem] theorem run_bd_id (i : Int) (w : World) : (bdRow 60 #[(0, .int .i64 i)]).run Tryd.prog w = .ok (.agg (Mb.arr ⟨i, Kb.zero⟩)) w := by
  refine run_bd w _ _ ?_
  rw [fill_cons _ _ _ _ _ 0 1 rfl rfl (by decide), fill_nil, lay_id]
theorem lay_key (i : Int) {k : Kb} (h : k.ok) : lay (Mb.arr ⟨i, Kb.zero⟩) 1 k.arr = Mb.arr ⟨i, k⟩ := by
  have hz := Mb.size (m := ⟨0, Kb.zero⟩) Mb.zero_ok
  have hk := Kb.size h
  have hs : (Mb.arr ⟨i, Kb.zero⟩).size = 34 := hz
  unfold lay
  rw [hs, hk]
  have e1 : (Mb.arr ⟨i, Kb.zero⟩).extract 34 34 = #[] := Array.eq_empty_of_size_eq_zero (by rw [Array.size_extract, hs]; rfl)
  have e2 : (Mb.arr ⟨i, Kb.zero⟩).extract 0 1 = #[.int .i64 i] := rfl
  rw [show (1 + 33) = 34 from rfl, e1, e2]
  simp [Mb.arr, Mb.cells, Kb.arr]
@[go_sem] theorem run_bd_key (i : Int) {k : Kb} (h : k.ok) (w : World) : (bdRow 60 #[(0, .int .i64 i), (1, .agg k.arr)]).run Tryd.prog w = .ok (.agg (Mb.arr ⟨i, k⟩)) w := by
  refine run_bd w _ _ ?_
  rw [fill_cons _ _ _ _ _ 0 1 rfl rfl (by decide), lay_id, fill_cons _ _ _ (.agg k.arr) _ 1 33 rfl (Kb.size h) (by rw [show (Mb.arr ⟨i, Kb.zero⟩).size = 34 from Mb.size (m := ⟨0, Kb.zero⟩) Mb.zero_ok]; decide), fill_nil]
  rw [show (Value.agg k.arr).cells = k.arr from rfl, lay_key i h]

/-- a change -/
structure Chg where
  kind : Int
  id : Int
  nw : Int
  key : Kb
  deriving DecidableEq, Inhabited
def Chg.cells (x : Chg) : List Value := .int .i64 x.kind :: .int .i64 x.id :: .int .i64 x.nw :: x.key.cells
def Chg.arr (x : Chg) : Array Value := x.cells.toArray
structure Chg.ok (x : Chg) : Prop where
  kind : (Lit.int .i64 x.kind).wf = true
  id : (Lit.int .i64 x.id).wf = true
  nw : (Lit.int .i64 x.nw).wf = true
  key : x.key.ok
theorem Chg.at0 (x : Chg) : x.arr[0]? = some (.int .i64 x.kind) := by simp [Chg.arr, Chg.cells]
theorem Chg.at1 (x : Chg) : x.arr[1]? = some (.int .i64 x.id) := by simp [Chg.arr, Chg.cells]
theorem Chg.at2 (x : Chg) : x.arr[2]? = some (.int .i64 x.nw) := by simp [Chg.arr, Chg.cells]
theorem Chg.size {x : Chg} (h : x.ok) : x.arr.size = 36 := by simp [Chg.arr, Chg.cells, Kb.len h.key]
theorem Chg.cutKey {x : Chg} (h : x.ok) : Go.Proofs.YtfnfgnhbnffagaaDoor.cut x.arr 3 33 = some x.key.arr := by
  unfold Go.Proofs.YtfnfgnhbnffagaaDoor.cut
  rw [Chg.size h, if_pos (by decide)]
  congr 1
  apply Array.ext'
  rw [Array.toList_extract, List.extract_eq_take_drop]
  show (x.cells.drop 3).take 33 = x.key.cells
  unfold Chg.cells
  simp only [List.drop_succ_cons, List.drop_zero]
  exact List.take_of_length_le (by rw [Kb.len h.key]; decide)
@[go_sem ↓] theorem lv_Key (a : Addr) : loadVar 40 a = ldVar 40 a := rfl
@[go_sem] theorem run_lv_Key (w : World) (b o : Nat) : (ldVar 40 ⟨b, o, none⟩).run Tryd.prog w = match rowAt w b o 33 with | some cs => .ok (.agg cs) w | none => (ldRaw 40 ⟨b, o, none⟩).run Tryd.prog w :=
  run_ldVar w 40 b o 33 _ Tryd.underlying40 rfl (by kernel_rfl)

/-- the members that a slice leads to -/
structure MS (w : World) (A : Option Addr) (n : Nat) (ms : List Mb) : Prop where
  len : ms.length = n
  small : n ≤ 140737488355328
  ok : ∀ m ∈ ms, m.ok
  mem : 0 < n → ∃ b off, A = some ⟨b, off, none⟩ ∧ b < w.heap.size ∧ ∀ i, i < n → rowAt w b (off + i * 34) 34 = some (ms.getD i default).arr

theorem Mb.inj {m k : Mb} (hm : m.ok) (hk : k.ok) (h : m.cells = k.cells) : m = k := by
  obtain ⟨i, ⟨r, t⟩⟩ := m
  obtain ⟨j, ⟨s, u⟩⟩ := k
  simp only [Mb.cells, Kb.cells, List.cons.injEq, Value.int.injEq, true_and] at h
  obtain ⟨h1, h2⟩ := h
  obtain ⟨h3, h4⟩ := List.append_inj h2 (by have := hm.key.len; have := hk.key.len; simp at *; omega)
  simp only [List.cons.injEq, Value.int.injEq, true_and, and_true] at h4
  have h5 : r = s := by
    exact (List.map_inj_right (fun x y h => by injection h)).1 h3
  rw [h1, h4, h5]

theorem MS.okAt {w : World} {A : Option Addr} {n : Nat} {ms : List Mb} (h : MS w A n ms) {i : Nat} (hi : i < n) : (ms.getD i default).ok := by
  have hl := h.len
  rw [List.getD_eq_getElem?_getD, List.getElem?_eq_getElem (by omega)]
  exact h.ok _ (List.getElem_mem _)
theorem MS.below {w w' : World} {A : Option Addr} {n : Nat} {ms : List Mb} (h : MS w A n ms) (hb : Below w.heap.size w w') : MS w' A n ms := by
  refine ⟨h.len, h.small, h.ok, fun hn => ?_⟩
  obtain ⟨b, off, rfl, hlt, hr⟩ := h.mem hn
  exact ⟨b, off, rfl, Nat.lt_of_lt_of_le hlt hb.size, fun i hi => by rw [rowAt_below hb hlt]; exact hr i hi⟩

end Go.Proofs.YtfnfgnhbnffagaaDoor
