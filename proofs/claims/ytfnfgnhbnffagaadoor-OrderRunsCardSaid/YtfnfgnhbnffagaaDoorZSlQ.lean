/-
The library's Clone, Delete and Insert at members: what they make of a row.
-/
import Derived.Test.YtfnfgnhbnffagaaDoorZEv
import Derived.Test.YtfnfgnhbnffagaaDoorZRow
import Derived.StillTailTactics
import Derived.WalkSmall
import Derived.Lib.SliceRun
import Derived.Lib.Overlaps
namespace Go.Proofs.YtfnfgnhbnffagaaDoor
open Go.RowKit
set_option linter.unusedVariables false
set_option linter.unusedSimpArgs false
set_option maxRecDepth 100000
set_option maxRecDepth 100000

def OkAllQ (ms : List Rq) : Prop := ∀ m ∈ ms, m.ok
theorem OkAllQ.len {ms : List Rq} (h : OkAllQ ms) : ∀ m ∈ ms, (Rq.cells m).length = 42 := fun m hm => Rq.len (h m hm)
theorem cells_onesQ (m : Rq) : ∀ u ∈ m.cells, u.oneCell' = true := rq_ones m
theorem flatM_onesQ (ms : List Rq) : ∀ u ∈ flatC Rq.cells ms, u.oneCell' = true := flatC_ones fun m _ => cells_onesQ m
theorem infoMQ : (Tryd.prog.info? 46).map (fun i => (i.zero, i.size, i.bytes)) = some (some (.agg (default : Rq).arr), 42, 136) := by kernel_rfl

/-- the builtins at members, as the walk meets them -/
@[go_sem ↓] theorem ap_MQ (ty : TypeId) (args : Array Value) : Builtin.append_ #[29, 29] ty args = apRow #[29, 29] ty args := rfl
@[go_sem ↓] theorem ap_MnQ (ty : TypeId) (args : Array Value) : Builtin.append_ #[29, 3] ty args = apRow #[29, 3] ty args := rfl
@[go_sem ↓] theorem cp_MQ (ty : TypeId) (args : Array Value) : Builtin.copy_ #[29, 29] ty args = cpRow #[29, 29] ty args := rfl
@[go_sem ↓] theorem cl_MQ (ty : TypeId) (args : Array Value) : Builtin.clear_ #[29] ty args = clRow #[29] ty args := rfl
@[go_sem] theorem nil_MQ (a : Option Addr) (l c : Nat) (w : World) : (binOp .eql 29 (.slice a l c) (.slice none 0 0)).run Tryd.prog w = .ok (.bool a.isNone) w := Lib.run_eql_slice_nil w 29 46 a l c 0 0 Tryd.underlying29
@[go_sem ↓] theorem bs_MQ (n : Nat) (ps : Array (Nat × Value)) : Instr.buildSlice 29 n ps = bsRow 29 n ps := rfl
@[go_sem] theorem bs_M0Q (w : World) : (bsRow 29 0 #[]).run Tryd.prog w = .ok (.slice (some ⟨w.heap.size, 0, none⟩) 0 0) (w.alloc (.cells #[] 46)) := by
  obtain ⟨i0, hi, hz0, hz1, hz2⟩ := info_parts infoMQ
  exact bs_row Tryd.underlying29 hi hz0 hz1 (Rq.size Rq.zero_ok) (by decide) w [] (by simp) (by simp)
theorem bs_M1Q {m : Rq} (h : m.ok) (w : World) : (bsRow 29 1 #[(0, .agg m.arr)]).run Tryd.prog w = .ok (.slice (some ⟨w.heap.size, 0, none⟩) 1 1) (w.alloc (.cells m.arr 46)) := by
  obtain ⟨i0, hi, hz0, hz1, hz2⟩ := info_parts infoMQ
  have := bs_row Tryd.underlying29 hi hz0 hz1 (Rq.size Rq.zero_ok) (by decide) w [.agg m.arr] (by simp [Value.cells, Rq.size h]) (by simp)
  simpa [Value.cells] using this

/-- an owned row of members, read -/
theorem QS_of_own {w : World} {B n : Nat} {v : Value} {ms : List Rq} (h : w.ownsRow B 46 42 v n (flatC Rq.cells ms)) (hok : OkAllQ ms) (hs : n ≤ 140737488355328) : ∃ A cap, v = .slice A n cap ∧ QS w A n ms := by
  have hl : ms.length = n := by
    have := h.1
    rw [flatC_length hok.len] at this
    omega
  rcases h.2 with ⟨rfl, rfl⟩ | ⟨g, cap, cur, rfl, hb, hg, hn, hm, hcs, hx⟩
  · exact ⟨none, 0, rfl, ⟨hl, hs, hok, fun h => by omega⟩⟩
  · refine ⟨_, cap, rfl, ⟨hl, hs, hok, fun h0 => ⟨g, 0, rfl, (Array.getElem?_eq_some_iff.1 hg).1, fun i hi => ?_⟩⟩⟩
    have h1 := flatC_at hok.len (i := i) (by omega)
    rw [← hx] at h1
    unfold rowAt
    rw [hg]
    show cut cur (0 + i * 42) 42 = _
    unfold cut
    rw [if_pos (by rw [hcs]; omega)]
    congr 1
    apply Array.ext'
    show (cur.extract (0 + i * 42) (0 + i * 42 + 42)).toList = (ms.getD i default).cells
    rw [← h1, Array.toList_extract, Nat.zero_add, List.extract_eq_take_drop, List.drop_take]
    rw [List.take_take]
    congr 1
    omega
/-- members that are read: their cells, one by one -/
theorem QS.news {w : World} {A : Option Addr} {n : Nat} {ms : List Rq} (h : QS w A n ms) {b off : Nat} (hA : A = some ⟨b, off, none⟩) (i : Nat) (hi : i ≤ n) : ∀ j u, (flatC Rq.cells (ms.drop i))[j]? = some u → w.cell? ((⟨b, off + i * 42, none⟩ : Addr).add j) = some u := by
  intro j u hu
  have hok : OkAllQ ms := h.ok
  rw [← flatC_drop hok.len (by rw [h.len]; exact hi), List.getElem?_drop] at hu
  have hlt : i * 42 + j < n * 42 := by
    have := (List.getElem?_eq_some_iff.1 hu).1
    rw [flatC_length hok.len, h.len] at this
    exact this
  have hq : (i * 42 + j) / 42 < n := by omega
  obtain ⟨b', off', e, hb, hm⟩ := h.mem (by omega)
  rw [hA] at e
  injection e with e
  injection e with e1 e2 _
  subst e1; subst e2
  have h1 := hm ((i * 42 + j) / 42) hq
  have h2 := flatC_at hok.len (i := (i * 42 + j) / 42) (by rw [h.len]; exact hq)
  have h3 : ((ms.getD ((i * 42 + j) / 42) default).arr)[(i * 42 + j) % 42]? = some u := by
    show ((ms.getD ((i * 42 + j) / 42) default).cells.toArray)[(i * 42 + j) % 42]? = some u
    rw [List.getElem?_toArray, ← h2, List.getElem?_take, if_pos (Nat.mod_lt _ (by decide)), List.getElem?_drop, ← hu]
    congr 1
    omega
  have h4 := cell_of_rowAt h1 _ _ h3
  rw [Addr.add_mid, ← h4]
  congr 2
  omega

end Go.Proofs.YtfnfgnhbnffagaaDoor
