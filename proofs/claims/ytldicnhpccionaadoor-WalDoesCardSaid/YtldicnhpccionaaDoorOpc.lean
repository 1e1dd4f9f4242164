/-
Bytes, and calls, that came in.
-/
import Derived.Test.YtldicnhpccionaaDoorOpn
import Derived.Test.YtldicnhpccionaaDoorGreat
namespace Go.Proofs.YtldicnhpccionaaDoor
open Go.ChangeShapes Go.WideShapes Go.ChangeAt Go.WideMaps Go.WideElems Go.RowKit
set_option linter.unusedVariables false
set_option linter.unusedSimpArgs false
/-- bytes, as they came in -/
def BytesAt (w : World) (v : Value) (l : List UInt8) : Prop := ∃ A c, v = .slice A l.length c ∧ BL w A l ∧ (A = none → c = 0 ∧ l = []) ∧ (∀ b o, A = some ⟨b, o, none⟩ → 0 < l.length → b < w.heap.size)
section
variable {H : Type} {enc : TypeId × Value → H} {w : World} {base : Nat} {spare : Nat → Bool} {held : Bool}
set_option maxRecDepth 100000 in
theorem open_bytes {r : Reach} {b0 : Nat} {v : Value} {d : DataW H} {p : List MemPlace} (hv : Value.okWide Tryd.prog w r b0 25 v) (h : DataW.Trod enc Tryd.prog w 0 spare held 25 v d p) (hw : ∀ n ∈ d.weights Tryd.prog 25, n ≤ reachBytes) :
    ∃ l, BytesAt w v l ∧ l.length ≤ 140737488355328 ∧ True := by
  obtain ⟨A0, n0, cap0, rfl⟩ := okWide_slice (P := Tryd.prog) Tryd.underlying25 hv
  obtain ⟨fuel, hf⟩ := h
  have hR := reach_le
  obtain ⟨A, l, c, hcs, h1, h2, h3, h4⟩ := trod_bytes hf
  simp [Value.cells] at hcs
  obtain ⟨rfl, rfl, rfl⟩ := hcs
  refine ⟨l, ⟨A0, cap0, rfl, h1, h2, h3⟩, ?_, trivial⟩
  rcases h4 with h | ⟨x, hx, hle⟩
  · rw [h]; simp
  · exact Nat.le_trans hle (Nat.le_trans (hw x hx) hR)
set_option maxRecDepth 100000 in
theorem trod_recs {fuel : Nat} {cs : List Value} {d : DataW H} {pl : List MemPlace} (hf : DataW.trod enc Tryd.prog w 0 spare held fuel 22 cs = some (d, pl)) (hw : ∀ n ∈ d.weights Tryd.prog 22, n ≤ reachBytes) :
    ∃ v ls, cs = [v] ∧ Lst (fun i => i < w.heap.size) w v ls ∧ ls.length ≤ 140737488355328 ∧ ∀ l ∈ ls, l.length ≤ 140737488355328 := by
  have c1 : Tryd.prog.cellsOf 25 = 1 := by kernel_rfl
  have by1 : Tryd.prog.bytesOf 25 = 24 := by kernel_rfl
  have hR := reach_le
  rcases Deep.open_slice Tryd.underlying22 hf with ⟨rfl, hx⟩ | ⟨a, n, cap, m, nf, D, Pl, rfl, _, hlc, hcm, hm, hx, hel⟩
  · exact ⟨_, [], rfl, lst_nil _ _, by simp, by simp⟩
  · have hd := (Prod.mk.inj hx).1
    have hmn : n ≤ m := by rw [hm]; split <;> omega
    have h1 : ∀ i, i < n → ∃ l, El (fun i => i < w.heap.size) w (a.add i) l ∧ (l = [] ∨ ∃ x ∈ (D i).weights Tryd.prog 25, l.length ≤ x) := fun i hi => by
      obtain ⟨cs', h2, h3⟩ := hel i (by omega)
      rw [c1, Nat.mul_one] at h2
      obtain ⟨A, l, c, rfl, h4, h5, h6, h7⟩ := trod_bytes h3
      refine ⟨l, ⟨⟨A, c, ?_, h4, h5, h6⟩⟩, h7⟩
      have := (World.cells?_some h2).2.2 0 (by omega)
      simpa [Addr.add] using this
    obtain ⟨f, hf⟩ := Deep.choose_lt h1
    have hgd : ∀ i, i < n → ((List.range n).map f).getD i [] = f i := fun i hi => by simp [List.getD_eq_getElem?_getD, hi]
    have hlen : ∀ i, i < n → (f i).length ≤ 140737488355328 := fun i hi => by
      rcases (hf i hi).2 with h | ⟨x, hx, hle⟩
      · rw [h]; simp
      · refine Nat.le_trans hle (Nat.le_trans (hw x ?_) hR)
        rw [hd]
        simp only [DataW.weights, Tryd.underlying22, List.mem_cons, List.mem_append]
        right; left
        exact weights_elem (List.mem_map.2 ⟨i, List.mem_range.2 hi, rfl⟩) hx
    refine ⟨_, (List.range n).map f, rfl, ⟨⟨some a, cap, by simp, by simpa using hlc, fun h0 => ?_⟩⟩, ?_, fun l hl => ?_⟩
    · have h0' : 0 < n := by simpa using h0
      obtain ⟨A, c, h2, -⟩ := (hf 0 h0').1.ex
      obtain ⟨b, o, sp⟩ := a
      have hsp : sp = none := by
        unfold World.cell? at h2
        split at h2
        · split at h2
          · cases h2
          · rename_i h; simpa [Addr.add] using h
        · cases h2
      subst hsp
      have hb : b < w.heap.size := World.block_lt_of_cell? w _ (by rw [Addr.add_mid] at h2; exact h2)
      refine ⟨b, o, rfl, hb, hb, fun i hi => ?_⟩
      have hi' : i < n := by simpa using hi
      rw [hgd i hi']
      have := (hf i hi').1
      rw [Addr.add_mid] at this
      exact this
    · have := hw (n * 24 + (m - n) * 24) (by
        rw [hd]
        simp only [DataW.weights, Tryd.underlying22, List.length_map, List.length_range, by1]
        rw [Nat.add_mul]
        exact List.mem_cons_self)
      simp
      omega
    · obtain ⟨i, hi, rfl⟩ := List.mem_map.1 hl
      exact hlen i (List.mem_range.1 hi)
/-- a call, in its five cells -/
structure CallC (w : World) (cs : List Value) (c : CallR) : Prop where
  ex : ∃ vL A cap, cs = [.int .i64 c.kind, vL, .int .i64 c.n, .int .i64 c.k, .slice A c.b.length cap] ∧ Lst (fun i => i < w.heap.size) w vL c.ls ∧ BL w A c.b ∧ (A = none → cap = 0 ∧ c.b = []) ∧ (∀ b o, A = some ⟨b, o, none⟩ → 0 < c.b.length → b < w.heap.size)
  sz : c.b.length ≤ 140737488355328 ∧ c.ls.length ≤ 140737488355328 ∧ ∀ l ∈ c.ls, l.length ≤ 140737488355328
  nn : c.n ≤ 9223372036854775807
set_option maxRecDepth 100000 in
theorem trod_call {fuel : Nat} {cs : List Value} {d : DataW H} {pl : List MemPlace} (h : DataW.trod enc Tryd.prog w 0 spare held fuel 27 cs = some (d, pl)) (hw : ∀ n ∈ d.weights Tryd.prog 27, n ≤ reachBytes) : ∃ c, CallC w cs c := by
  obtain ⟨xs, n, _, hx, hl, hlen, hf⟩ := DataW.trod_struct Tryd.underlying27 h
  have hl' : cs.length = 5 := hl.trans (by kernel_rfl)
  have hlen' : xs.length = 5 := hlen
  have c1 : Tryd.prog.cellsOf 3 = 1 := by kernel_rfl
  have c2 : Tryd.prog.cellsOf 22 = 1 := by kernel_rfl
  have c3 : Tryd.prog.cellsOf 25 = 1 := by kernel_rfl
  have hR := reach_le
  have hd := (Prod.mk.inj hx).1
  have h0 : DataW.trod enc Tryd.prog w 0 spare held n 3 ((cs.drop 0).take (Tryd.prog.cellsOf 3)) = xs[0]? := hf 0 _ rfl
  have h1 : DataW.trod enc Tryd.prog w 0 spare held n 22 ((cs.drop 1).take (Tryd.prog.cellsOf 22)) = xs[1]? := hf 1 _ rfl
  have h2 : DataW.trod enc Tryd.prog w 0 spare held n 3 ((cs.drop 2).take (Tryd.prog.cellsOf 3)) = xs[2]? := hf 2 _ rfl
  have h3 : DataW.trod enc Tryd.prog w 0 spare held n 3 ((cs.drop 3).take (Tryd.prog.cellsOf 3)) = xs[3]? := hf 3 _ rfl
  have h4 : DataW.trod enc Tryd.prog w 0 spare held n 25 ((cs.drop 4).take (Tryd.prog.cellsOf 25)) = xs[4]? := hf 4 _ rfl
  rw [c1] at h0 h2 h3
  rw [c2] at h1
  rw [c3] at h4
  rw [List.getElem?_eq_getElem (by omega)] at h0 h1 h2 h3 h4
  have hwe : ∀ (j : Nat) (hj : j < xs.length) (t : TypeId), [3, 22, 3, 3, 25][j]? = some t → ∀ x ∈ (xs[j]'hj).1.weights Tryd.prog t, x ≤ reachBytes := fun j hj t ht x hx => hw x (by
    rw [hd]
    simp only [DataW.weights, Tryd.underlying27]
    exact DataW.weights_mem_each (j := j) (by exact ht) (by rw [List.getElem?_map, List.getElem?_eq_getElem hj]; rfl) x hx)
  obtain ⟨κ, e0, _, _⟩ := DataW.trod_int Tryd.underlying3 h0
  obtain ⟨N, e2, _, wn⟩ := DataW.trod_int Tryd.underlying3 h2
  obtain ⟨K, e3, _, _⟩ := DataW.trod_int Tryd.underlying3 h3
  obtain ⟨vL, ls, e1, hls, g1, g2⟩ := trod_recs (d := (xs[1]'(by omega)).1) (pl := (xs[1]'(by omega)).2) h1 (hwe 1 (by omega) 22 rfl)
  obtain ⟨A, b, cap, e4, hb, hA, hbw, hlb⟩ := trod_bytes (d := (xs[4]'(by omega)).1) (pl := (xs[4]'(by omega)).2) h4
  refine ⟨⟨κ, N, K, ls, b⟩, ⟨⟨vL, A, cap, ?_, hls, hb, hA, hbw⟩, ⟨?_, g1, g2⟩, (bounds_i64 wn).2⟩⟩
  · match cs, hl', e0, e1, e2, e3, e4 with
    | [p, q, r, s, t], _, e0, e1, e2, e3, e4 =>
      simp at e0 e1 e2 e3 e4
      subst e0; subst e1; subst e2; subst e3; subst e4
      rfl
  · show b.length ≤ _
    rcases hlb with h | ⟨x, hx, hle⟩
    · rw [h]; simp
    · exact Nat.le_trans hle (Nat.le_trans (hwe 4 (by omega) 25 rfl x hx) hR)
set_option maxRecDepth 100000 in
/-- calls that came in -/
theorem open_calls {r : Reach} {b0 : Nat} {v : Value} {d : DataW H} {p : List MemPlace} (hv : Value.okWide Tryd.prog w r b0 28 v) (h : DataW.Trod enc Tryd.prog w 0 spare held 28 v d p) (hw : ∀ n ∈ d.weights Tryd.prog 28, n ≤ reachBytes) :
    ∃ cs, CallsL (fun i => i < w.heap.size) w v cs ∧ cs.length ≤ 140737488355328 ∧ ∀ c ∈ cs, (c.b.length ≤ 140737488355328 ∧ c.ls.length ≤ 140737488355328 ∧ ∀ l ∈ c.ls, l.length ≤ 140737488355328) ∧ c.n ≤ 9223372036854775807 := by
  obtain ⟨A, n, cap, rfl⟩ := okWide_slice (P := Tryd.prog) Tryd.underlying28 hv
  obtain ⟨fuel, hf⟩ := h
  have c1 : Tryd.prog.cellsOf 27 = 5 := by kernel_rfl
  have by1 : Tryd.prog.bytesOf 27 = 72 := by kernel_rfl
  have hR := reach_le
  rcases Deep.open_slice Tryd.underlying28 hf with ⟨hcs, hx⟩ | ⟨a, len, cap', m, nf, D, Pl, hcs, _, hlc, hcm, hm, hx, hel⟩
  · simp [Value.cells] at hcs
    obtain ⟨rfl, rfl, rfl⟩ := hcs
    exact ⟨[], ⟨⟨none, 0, rfl, fun h => by simp at h⟩⟩, by simp, by simp⟩
  · simp [Value.cells] at hcs
    obtain ⟨rfl, rfl, rfl⟩ := hcs
    have hd := (Prod.mk.inj hx).1
    have hmn : n ≤ m := by rw [hm]; split <;> omega
    have h1 : ∀ i, i < n → ∃ c, ∃ cs', CallC w cs' c ∧ ∀ j, j < 5 → w.cell? ((a.add (i * 5)).add j) = cs'[j]? := fun i hi => by
      obtain ⟨cs', h2, h3⟩ := hel i (by omega)
      rw [c1] at h2
      obtain ⟨c, hc⟩ := trod_call h3 (fun x hx => hw x (by
        rw [hd]
        simp only [DataW.weights, Tryd.underlying28, List.mem_cons, List.mem_append]
        right; left
        exact weights_elem (List.mem_map.2 ⟨i, List.mem_range.2 hi, rfl⟩) hx))
      exact ⟨c, cs', hc, fun j hj => (World.cells?_some h2).2.2 j hj⟩
    obtain ⟨f, hf⟩ := Deep.choose_lt h1
    have hgd : ∀ i, i < n → ((List.range n).map f).getD i default = f i := fun i hi => by simp [List.getD_eq_getElem?_getD, hi]
    refine ⟨(List.range n).map f, ⟨⟨some a, cap, by simp, fun h0 => ?_⟩⟩, ?_, fun c hc => ?_⟩
    · have h0' : 0 < n := by simpa using h0
      obtain ⟨cs0, hc0, hj0⟩ := hf 0 h0'
      have hcell : w.cell? a = some (.int .i64 (f 0).kind) := by
        have := hj0 0 (by omega)
        have e : (a.add (0 * 5)).add 0 = a := by simp [Addr.add]
        rw [e] at this
        obtain ⟨vL, A', cap2, rfl, -⟩ := hc0.ex
        rw [this]; rfl
      obtain ⟨b, o, sp⟩ := a
      have hsp : sp = none := by
        unfold World.cell? at hcell
        split at hcell
        · split at hcell
          · cases hcell
          · rename_i h; simpa using h
        · cases hcell
      subst hsp
      have hb : b < w.heap.size := World.block_lt_of_cell? w _ hcell
      refine ⟨b, o, rfl, hb, hb, fun i hi => ?_⟩
      have hi' : i < n := by simpa using hi
      rw [hgd i hi']
      obtain ⟨cs', hc', hj'⟩ := hf i hi'
      obtain ⟨vL, A', cap2, rfl, q1, q2, q3, q4⟩ := hc'.ex
      refine ⟨⟨vL, A', cap2, ?_, q1, q2, q3, q4⟩⟩
      refine rowAt_of_rangeAt (cs := [.int .i64 (f i).kind, vL, .int .i64 (f i).n, .int .i64 (f i).k, .slice A' (f i).b.length cap2]) (fun j v hv => ?_) rfl (by decide)
      have hj : j < 5 := by have := (List.getElem?_eq_some_iff.1 hv).1; simpa using this
      have := hj' j hj
      rw [Addr.add_mid, Addr.add_mid] at this
      rw [this, hv]
    · have := hw (n * 72 + (m - n) * 72) (by
        rw [hd]
        simp only [DataW.weights, Tryd.underlying28, List.length_map, List.length_range, by1]
        rw [Nat.add_mul]
        exact List.mem_cons_self)
      simp
      omega
    · obtain ⟨i, hi, rfl⟩ := List.mem_map.1 hc
      obtain ⟨cs', hc', -⟩ := hf i (List.mem_range.1 hi)
      exact ⟨hc'.sz, hc'.nn⟩
end
end Go.Proofs.YtldicnhpccionaaDoor
