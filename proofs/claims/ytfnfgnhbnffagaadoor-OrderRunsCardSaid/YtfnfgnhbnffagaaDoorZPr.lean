/-
Pairs (a key and a value) and replies in memory.
-/
import Derived.Test.YtfnfgnhbnffagaaDoorZMb
import Derived.Test.YtfnfgnhbnffagaaDoorZRow
namespace Go.Proofs.YtfnfgnhbnffagaaDoor
open Go.RowKit
set_option linter.unusedVariables false
set_option linter.unusedSimpArgs false
/-- a pair -/
structure Pr where
  key : ByteArray
  val : ByteArray
instance : Inhabited Pr := ⟨⟨ByteArray.empty, ByteArray.empty⟩⟩
def Pr.cells (m : Pr) : List Value := [.string m.key, .string m.val]
def Pr.arr (m : Pr) : Array Value := m.cells.toArray
structure Pr.ok (m : Pr) : Prop where
  k : m.key.size ≤ 140737488355328
  v : m.val.size ≤ 140737488355328
theorem Pr.len {m : Pr} (h : m.ok) : m.cells.length = 2 := rfl
theorem Pr.size {m : Pr} (h : m.ok) : m.arr.size = 2 := rfl
theorem Pr.sz {m : Pr} (h : m.ok) : SizeIs m.arr 2 := rfl
theorem Pr.cut {m : Pr} (h : m.ok) : cut m.arr 0 2 = some m.arr := cut_all _ _ rfl
theorem Pr.ones (m : Pr) : oneCells m.arr = true := by simp [oneCells, Pr.arr, Pr.cells, Value.oneCell']
theorem Pr.at0 (m : Pr) : m.arr[0]? = some (.string m.key) := rfl
theorem Pr.at1 (m : Pr) : m.arr[1]? = some (.string m.val) := rfl
def Pr.zero : Pr := ⟨ByteArray.empty, ByteArray.empty⟩
theorem Pr.zero_ok : Pr.zero.ok := ⟨by decide, by decide⟩
@[go_sem ↓] theorem lv_Pair (a : Addr) : loadVar 75 a = ldVar 75 a := rfl
@[go_sem ↓] theorem sv_Pair (a : Addr) (v : Value) : storeVar 75 a v = stVar 75 a v := rfl
@[go_sem] theorem run_lv_Pair (w : World) (b o : Nat) : (ldVar 75 ⟨b, o, none⟩).run Tryd.prog w = match rowAt w b o 2 with | some cs => .ok (.agg cs) w | none => (ldRaw 75 ⟨b, o, none⟩).run Tryd.prog w :=
  run_ldVar w 75 b o 2 _ Tryd.underlying75 rfl (by kernel_rfl)
@[go_sem] theorem run_sv_Pair (w : World) (b : Nat) (cs : Array Value) : (stVar 75 ⟨b, 0, none⟩ (.agg cs)).run Tryd.prog w = match putRow w b 2 cs with | some w' => .ok () w' | none => (stRaw 75 ⟨b, 0, none⟩ (.agg cs)).run Tryd.prog w :=
  run_stVar w 75 b 2 cs (by kernel_rfl)
structure PS (w : World) (A : Option Addr) (n : Nat) (ms : List Pr) : Prop where
  len : ms.length = n
  small : n ≤ 140737488355328
  ok : ∀ m ∈ ms, m.ok
  mem : 0 < n → ∃ b off, A = some ⟨b, off, none⟩ ∧ b < w.heap.size ∧ ∀ i, i < n → rowAt w b (off + i * 2) 2 = some (ms.getD i default).arr
theorem PS.okAt {w : World} {A : Option Addr} {n : Nat} {ms : List Pr} (h : PS w A n ms) {i : Nat} (hi : i < n) : (ms.getD i default).ok := by
  have hl := h.len
  rw [List.getD_eq_getElem?_getD, List.getElem?_eq_getElem (by omega)]
  exact h.ok _ (List.getElem_mem _)
theorem PS.below {w w' : World} {A : Option Addr} {n : Nat} {ms : List Pr} (h : PS w A n ms) (hb : Below w.heap.size w w') : PS w' A n ms := by
  refine ⟨h.len, h.small, h.ok, fun hn => ?_⟩
  obtain ⟨b, off, rfl, hlt, hr⟩ := h.mem hn
  exact ⟨b, off, rfl, Nat.lt_of_lt_of_le hlt hb.size, fun i hi => by rw [rowAt_below hb hlt]; exact hr i hi⟩
/-- a reply: its values lie in a slice of their own -/
structure Rp where
  client : Int
  num : Int
  code : Int
  A : Option Addr
  cap : Nat
  vals : List ByteArray
instance : Inhabited Rp := ⟨⟨0, 0, 0, none, 0, []⟩⟩
def Rp.v (m : Rp) : Value := .slice m.A m.vals.length m.cap
def Rp.cells (m : Rp) : List Value := [.int .i64 m.client, .int .i64 m.num, .int .i64 m.code, .slice m.A m.vals.length m.cap]
def Rp.arr (m : Rp) : Array Value := m.cells.toArray
structure Rp.ok (m : Rp) : Prop where
  c : (Lit.int .i64 m.client).wf = true
  n : (Lit.int .i64 m.num).wf = true
  l : m.vals.length ≤ 8796093022208
  s : ∀ x ∈ m.vals, x.size ≤ 140737488355328
theorem Rp.len {m : Rp} (h : m.ok) : m.cells.length = 4 := rfl
theorem Rp.size {m : Rp} (h : m.ok) : m.arr.size = 4 := rfl
theorem Rp.sz {m : Rp} (h : m.ok) : SizeIs m.arr 4 := rfl
theorem Rp.cut {m : Rp} (h : m.ok) : cut m.arr 0 4 = some m.arr := cut_all _ _ rfl
theorem Rp.ones (m : Rp) : oneCells m.arr = true := by simp [oneCells, Rp.arr, Rp.cells, Value.oneCell']
theorem Rp.at0 (m : Rp) : m.arr[0]? = some (.int .i64 m.client) := rfl
theorem Rp.at1 (m : Rp) : m.arr[1]? = some (.int .i64 m.num) := rfl
theorem Rp.at2 (m : Rp) : m.arr[2]? = some (.int .i64 m.code) := rfl
theorem Rp.at3 (m : Rp) : m.arr[3]? = some m.v := rfl
def Rp.zero : Rp := ⟨0, 0, 0, none, 0, []⟩
theorem Rp.zero_ok : Rp.zero.ok := ⟨by decide, by decide, by decide, by simp [Rp.zero]⟩
@[go_sem ↓] theorem lv_Reply (a : Addr) : loadVar 49 a = ldVar 49 a := rfl
@[go_sem ↓] theorem sv_Reply (a : Addr) (v : Value) : storeVar 49 a v = stVar 49 a v := rfl
@[go_sem] theorem run_lv_Reply (w : World) (b o : Nat) : (ldVar 49 ⟨b, o, none⟩).run Tryd.prog w = match rowAt w b o 4 with | some cs => .ok (.agg cs) w | none => (ldRaw 49 ⟨b, o, none⟩).run Tryd.prog w :=
  run_ldVar w 49 b o 4 _ Tryd.underlying49 rfl (by kernel_rfl)
@[go_sem] theorem run_sv_Reply (w : World) (b : Nat) (cs : Array Value) : (stVar 49 ⟨b, 0, none⟩ (.agg cs)).run Tryd.prog w = match putRow w b 4 cs with | some w' => .ok () w' | none => (stRaw 49 ⟨b, 0, none⟩ (.agg cs)).run Tryd.prog w :=
  run_stVar w 49 b 4 cs (by kernel_rfl)
structure RS (w : World) (A : Option Addr) (n : Nat) (ms : List Rp) : Prop where
  len : ms.length = n
  small : n ≤ 140737488355328
  ok : ∀ m ∈ ms, m.ok
  mem : 0 < n → ∃ b off, A = some ⟨b, off, none⟩ ∧ b < w.heap.size ∧ ∀ i, i < n → rowAt w b (off + i * 4) 4 = some (ms.getD i default).arr
theorem RS.okAt {w : World} {A : Option Addr} {n : Nat} {ms : List Rp} (h : RS w A n ms) {i : Nat} (hi : i < n) : (ms.getD i default).ok := by
  have hl := h.len
  rw [List.getD_eq_getElem?_getD, List.getElem?_eq_getElem (by omega)]
  exact h.ok _ (List.getElem_mem _)
theorem RS.below {w w' : World} {A : Option Addr} {n : Nat} {ms : List Rp} (h : RS w A n ms) (hb : Below w.heap.size w w') : RS w' A n ms := by
  refine ⟨h.len, h.small, h.ok, fun hn => ?_⟩
  obtain ⟨b, off, rfl, hlt, hr⟩ := h.mem hn
  exact ⟨b, off, rfl, Nat.lt_of_lt_of_le hlt hb.size, fun i hi => by rw [rowAt_below hb hlt]; exact hr i hi⟩
/-- a search by halves: the first place where 'ahead' does not hold, if they stand in order -/
def halve (ahead : Nat → Bool) (i j : Nat) : Nat := if i < j then if ahead ((i + j) / 2) then halve ahead ((i + j) / 2 + 1) j else halve ahead i ((i + j) / 2) else i
termination_by j - i
decreasing_by all_goals omega
theorem halve_lt {ahead : Nat → Bool} {i j : Nat} (h : i < j) (ha : ahead ((i + j) / 2) = true) : halve ahead i j = halve ahead ((i + j) / 2 + 1) j := by
  rw [halve, if_pos h, if_pos ha]
theorem halve_ge {ahead : Nat → Bool} {i j : Nat} (h : i < j) (ha : ahead ((i + j) / 2) = false) : halve ahead i j = halve ahead i ((i + j) / 2) := by
  rw [halve, if_pos h, if_neg (by rw [ha]; decide)]
theorem halve_end (ahead : Nat → Bool) (i : Nat) : halve ahead i i = i := by
  rw [halve, if_neg (by omega)]
theorem halve_le (ahead : Nat → Bool) : ∀ (d i j : Nat), j - i ≤ d → i ≤ j → i ≤ halve ahead i j ∧ halve ahead i j ≤ j
  | 0, i, j, h, h1 => by obtain rfl : i = j := by omega
                         rw [halve_end]; omega
  | d + 1, i, j, h, h1 => by
    by_cases hij : i < j
    · cases ha : ahead ((i + j) / 2)
      · rw [halve_ge hij ha]
        have := halve_le ahead d i ((i + j) / 2) (by omega) (by omega)
        omega
      · rw [halve_lt hij ha]
        have := halve_le ahead d ((i + j) / 2 + 1) j (by omega) (by omega)
        omega
    · obtain rfl : i = j := by omega
      rw [halve_end]; omega
end Go.Proofs.YtfnfgnhbnffagaaDoor
