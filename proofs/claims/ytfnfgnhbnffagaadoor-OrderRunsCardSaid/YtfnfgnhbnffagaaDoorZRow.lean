/-
Rows of elements in memory, each of several cells: taken, put together, and what append, copy and clear do to a row that the call owns. No program in sight.
-/
import Derived.Test.YtfnfgnhbnffagaaDoorZBase
import Derived.Laws.AppendOwn
import Derived.Maps.AppendAt
import Derived.Lib.AppendZerosOnto
import Derived.Great.FillDense
import Derived.KernelRfl
namespace Go.Proofs.YtfnfgnhbnffagaaDoor
open Go.RowKit
set_option linter.unusedVariables false

section
variable {α : Type} (c : α → List Value)
/-- the cells of elements, one behind the other -/
def flatC (ms : List α) : List Value := ms.flatMap c
theorem flatC_append (xs ys : List α) : flatC c (xs ++ ys) = flatC c xs ++ flatC c ys := by simp [flatC]
theorem flatC_cons (x : α) (ys : List α) : flatC c (x :: ys) = c x ++ flatC c ys := by simp [flatC]
theorem flatC_nil : flatC c [] = [] := rfl
theorem flatC_one (x : α) : flatC c [x] = c x := by simp [flatC]
variable {c} {sz : Nat}
theorem flatC_length {ms : List α} (h : ∀ m ∈ ms, (c m).length = sz) : (flatC c ms).length = ms.length * sz := by
  induction ms with
  | nil => simp [flatC]
  | cons x r ih =>
    rw [flatC_cons, List.length_append, h x (by simp), ih (fun m hm => h m (by simp [hm])), List.length_cons, Nat.succ_mul, Nat.add_comm]
theorem flatC_split {ms : List α} (h : ∀ m ∈ ms, (c m).length = sz) (i : Nat) : flatC c ms = flatC c (ms.take i) ++ flatC c (ms.drop i) := by
  rw [← flatC_append, List.take_append_drop]
theorem flatC_take {ms : List α} (h : ∀ m ∈ ms, (c m).length = sz) {i : Nat} (hi : i ≤ ms.length) : (flatC c ms).take (i * sz) = flatC c (ms.take i) := by
  have hl : (flatC c (ms.take i)).length = i * sz := by
    rw [flatC_length (fun m hm => h m (List.mem_of_mem_take hm)), List.length_take, Nat.min_eq_left hi]
  rw [flatC_split h i, List.take_append_of_le_length (by omega), List.take_of_length_le (by omega)]
theorem flatC_drop {ms : List α} (h : ∀ m ∈ ms, (c m).length = sz) {i : Nat} (hi : i ≤ ms.length) : (flatC c ms).drop (i * sz) = flatC c (ms.drop i) := by
  have hl : (flatC c (ms.take i)).length = i * sz := by
    rw [flatC_length (fun m hm => h m (List.mem_of_mem_take hm)), List.length_take, Nat.min_eq_left hi]
  rw [flatC_split h i, List.drop_append_of_le_length (by omega), List.drop_of_length_le (by omega), List.nil_append]
theorem flatC_at {ms : List α} [Inhabited α] (h : ∀ m ∈ ms, (c m).length = sz) {i : Nat} (hi : i < ms.length) : ((flatC c ms).drop (i * sz)).take sz = c (ms.getD i default) := by
  rw [flatC_drop h (by omega), List.drop_eq_getElem_cons hi, flatC_cons, List.take_append_of_le_length (by rw [h _ (List.getElem_mem _)]; omega), List.take_of_length_le (by rw [h _ (List.getElem_mem _)]; omega)]
  rw [List.getD_eq_getElem?_getD, List.getElem?_eq_getElem hi]
  rfl
theorem flatC_ones {ms : List α} (h : ∀ m ∈ ms, ∀ u ∈ c m, u.oneCell' = true) : ∀ u ∈ flatC c ms, u.oneCell' = true := by
  intro u hu
  unfold flatC at hu
  rw [List.mem_flatMap] at hu
  obtain ⟨m, hm, hu⟩ := hu
  exact h m hm u hu
end

/-- cells are laid over others, from a place on -/
def spl (cur : Array Value) (o : Nat) (vs : List Value) : Array Value := (cur.toList.take o ++ vs ++ cur.toList.drop (o + vs.length)).toArray
theorem spl_size {cur : Array Value} {o : Nat} {vs : List Value} (h : o + vs.length ≤ cur.size) : (spl cur o vs).size = cur.size := by
  simp [spl]; omega
theorem spl_take_le {cur : Array Value} {o k : Nat} {vs : List Value} (h : o + vs.length ≤ cur.size) (hk : k ≤ o) : (spl cur o vs).toList.take k = cur.toList.take k := by
  unfold spl
  simp only [List.append_assoc]
  rw [List.take_append_of_le_length (by simp; omega), List.take_take, Nat.min_eq_left hk]
theorem spl_take_end {cur : Array Value} {o : Nat} {vs : List Value} (h : o + vs.length ≤ cur.size) : (spl cur o vs).toList.take (o + vs.length) = cur.toList.take o ++ vs := by
  unfold spl
  have hl : (cur.toList.take o ++ vs).length = o + vs.length := by simp; omega
  show (cur.toList.take o ++ vs ++ cur.toList.drop (o + vs.length)).take (o + vs.length) = _
  rw [List.take_append_of_le_length (by omega), List.take_of_length_le (by omega)]
theorem spl_take_far {cur : Array Value} {o k : Nat} {vs : List Value} (h : o + vs.length ≤ cur.size) (hk : o + vs.length ≤ k) : (spl cur o vs).toList.take k = cur.toList.take o ++ vs ++ (cur.toList.take k).drop (o + vs.length) := by
  unfold spl
  have hl : (cur.toList.take o ++ vs).length = o + vs.length := by simp; omega
  show (cur.toList.take o ++ vs ++ cur.toList.drop (o + vs.length)).take k = _
  rw [List.take_append, List.take_of_length_le (by omega), hl, List.drop_take]

theorem setRow_setRow (w : World) (g : Nat) (c c' : Array Value) : (w.setRow g c).setRow g c' = w.setRow g c' := by
  simp only [World.setRow]
  congr 1
  apply Array.ext_getElem?
  intro i
  rw [Array.getElem?_modify, Array.getElem?_modify, Array.getElem?_modify]
  split
  · cases w.heap[i]? with
    | none => rfl
    | some o => cases o <;> rfl
  · rfl
theorem grown_setRow {w w' : World} {g : Nat} (h : w.grownBy w' (some g)) (c : Array Value) : w.grownBy (w'.setRow g c) (some g) :=
  ⟨h.os, h.tape, h.output, by simp; exact h.size, fun k hk hne => (setRow_other w' g k c (fun e => hne (by rw [e]))).trans (h.block k hk hne)⟩
theorem grown_refl (w : World) (r : Option Nat) : w.grownBy w r := ⟨rfl, rfl, rfl, Nat.le_refl _, fun _ _ _ => rfl⟩
theorem grown_drew {w w' : World} {r : Option Nat} (h : w.grownBy w' r) : w.grownBy w'.drew r := ⟨h.os, h.tape, h.output, h.size, h.block⟩
theorem grown_alloc {w w' : World} {r : Option Nat} (h : w.grownBy w' r) (o : Obj) : w.grownBy (w'.alloc o) r :=
  ⟨h.os, h.tape, h.output, by simp; have := h.size; omega, fun k hk hne => (Below.heap_alloc w' o k (Nat.lt_of_lt_of_le hk h.size)).trans (h.block k hk hne)⟩
theorem grown_new {w w' : World} {r : Option Nat} (h : w.grownBy w' r) {g : Nat} (hg : w.heap.size ≤ g) (c : Array Value) : w.grownBy (w'.setRow g c) r :=
  ⟨h.os, h.tape, h.output, by simp; exact h.size, fun k hk hne => (setRow_other w' g k c (by omega)).trans (h.block k hk hne)⟩
theorem grown_trans {w w' w'' : World} {r : Option Nat} (h : w.grownBy w' r) (k : w'.grownBy w'' r) : w.grownBy w'' r :=
  ⟨k.os.trans h.os, k.tape.trans h.tape, k.output.trans h.output, Nat.le_trans h.size k.size, fun i hi hne => (k.block i (Nat.lt_of_lt_of_le hi h.size) hne).trans (h.block i hi hne)⟩

/-- a row whose block is known: what a slice over it reads -/
theorem own_of_block {w : World} {B e sz g n cap : Nat} {cur : Array Value} {xs : List Value} (hB : B ≤ g) (hg : w.heap[g]? = some (.cells cur e (0, 0))) (hn : n ≤ cap) (hm : cap ≤ maxLen) (hs : cur.size = cap * sz)
    (hx : cur.toList.take (n * sz) = xs) : w.ownsRow B e sz (.slice (some ⟨g, 0, none⟩) n cap) n xs := by
  refine ⟨?_, .inr ⟨g, cap, cur, rfl, hB, hg, hn, hm, hs, hx⟩⟩
  rw [← hx, List.length_take, Array.length_toList, hs]
  exact Nat.min_eq_left (Nat.mul_le_mul_right _ hn)

section
variable {P : Program} {t e : TypeId} {i : TypeInfo} {z : Value} {sz bytes : Nat}

/-- the builtins, as the walk meets them -/
def apRow (ats : Array TypeId) (ty : TypeId) (args : Array Value) : Sem Value := Builtin.append_ ats ty args
def cpRow (ats : Array TypeId) (ty : TypeId) (args : Array Value) : Sem Value := Builtin.copy_ ats ty args
def clRow (ats : Array TypeId) (ty : TypeId) (args : Array Value) : Sem Value := Builtin.clear_ ats ty args
def bsRow (t : TypeId) (n : Nat) (ps : Array (Nat × Value)) : Sem Value := Instr.buildSlice t n ps

/-- append into room, from wherever -/
theorem ap_room (ht : P.underlying t = some (.slice e)) (hi : P.info? e = some i) (hsz : i.size = sz) (w : World) (ty : TypeId) {g n cap : Nat} {cur : Array Value} (hg : w.heap[g]? = some (.cells cur e (0, 0)))
    (ad : Addr) (m c : Nat) (news : List Value) (hl : news.length = m * sz) (hnews : ∀ j u, news[j]? = some u → w.cell? (ad.add j) = some u) (h1 : ∀ u ∈ news, u.oneCell' = true) (hroom : n + m ≤ cap) (hfit : n * sz + news.length ≤ cur.size) :
    (apRow #[t, t] ty #[.slice (some ⟨g, 0, none⟩) n cap, .slice (some ad) m c]).run P w = .ok (.slice (some ⟨g, 0, none⟩) (n + m) cap) (w.setRow g (spl cur (n * sz) news)) := by
  subst hsz
  exact run_append_room (P := P) w t ty e i ht hi g n cap cur hg ad m c news hl hnews h1 hroom hfit

/-- append where nothing is appended -/
theorem store_at {w : World} {g o : Nat} {cur : Array Value} (hg : w.heap[g]? = some (.cells cur e (0, 0))) (vs : List Value) (hfit : o + vs.length ≤ cur.size) (h1 : ∀ u ∈ vs, u.oneCell' = true) :
    (storeCells ⟨g, o, none⟩ vs).run P w = .ok () (w.setRow g (spl cur o vs)) := by
  have := run_storeCells_at P g o e vs 0 cur w hg (by simpa using hfit) h1
  simpa [spl] using this

/-- copy into a row, from wherever: as many as fit -/
theorem cp_row (ht : P.underlying t = some (.slice e)) (hi : P.info? e = some i) (hsz : i.size = sz) (w : World) (ty sT : TypeId) {g o : Nat} {cur : Array Value} (hg : w.heap[g]? = some (.cells cur e (0, 0)))
    (dl dc : Nat) (ad : Addr) (m c : Nat) (k : Nat) (hk : Nat.min m dl = k) (news : List Value) (hl : news.length = k * sz) (hnews : ∀ j u, news[j]? = some u → w.cell? (ad.add j) = some u) (h1 : ∀ u ∈ news, u.oneCell' = true) (hfit : o + news.length ≤ cur.size) :
    (cpRow #[t, sT] ty #[.slice (some ⟨g, o, none⟩) dl dc, .slice (some ad) m c]).run P w = .ok (.int .i64 (k : Int)) (w.setRow g (spl cur o news)) := by
  subst hsz
  have hf := run_firstCells_some (P := P) w i.size k ad m c news hl hnews
  have hst := store_at (P := P) hg news hfit h1
  unfold cpRow
  simp [Builtin.copy_, run_underlying ht, sizeOf, typeInfo, hi, Builtin.lenOf, hk, hf, hst, goInt]

/-- clear: zero values -/
theorem cl_row (ht : P.underlying t = some (.slice e)) (hi : P.info? e = some i) (hz : i.zero = some z) (w : World) (ty : TypeId) {g o : Nat} {cur : Array Value} (hg : w.heap[g]? = some (.cells cur e (0, 0)))
    (n c : Nat) (h0 : 0 < n) (vs : List Value) (hvs : (Builtin.zeroCells z.cells n).toList = vs) (h1 : ∀ u ∈ vs, u.oneCell' = true) (hfit : o + vs.length ≤ cur.size) :
    (clRow #[t] ty #[.slice (some ⟨g, o, none⟩) n c]).run P w = .ok (.tuple #[]) (w.setRow g (spl cur o vs)) := by
  have hst := store_at (P := P) hg vs hfit h1
  obtain ⟨n, rfl⟩ : ∃ m, n = m + 1 := ⟨n - 1, by omega⟩
  unfold clRow
  simp [Builtin.clear_, run_underlying ht, zeroValue, typeInfo, hi, hz, hvs, hst]

/-- append of new zero values, where there is no room -/
theorem ap_zeros {tn : TypeId} (ht : P.underlying t = some (.slice e)) (htn : P.underlying tn = some (.int .i64)) (hi : P.info? e = some i) (hz : i.zero = some z) (hsz : i.size = sz) (hby : i.bytes = bytes) (h0 : 0 < sz) (w : World) (ty : TypeId) (g n cap k : Nat) (olds : List Value)
    (hl : olds.length = n * sz) (hold : ∀ j u, olds[j]? = some u → w.cell? ((⟨g, 0, none⟩ : Addr).add j) = some u) (hk : 0 < k) (hg : cap < n + k) (hb : (n + k) * bytes ≤ 140737488355328) (hnk : n + k ≤ 9223372036854775807) :
    (apRow #[t, tn] ty #[.slice (some ⟨g, 0, none⟩) n cap, .int .i64 (k : Int)]).run P w = .ok (.slice (some ⟨w.heap.size, 0, none⟩) (n + k) (grownCap w (n + k) cap e))
      (w.drew.alloc (.cells (olds.toArray ++ Builtin.zeroCells z.cells k ++ Builtin.zeroCells z.cells (grownCap w (n + k) cap e - (n + k))) e)) := by
  subst hsz; subst hby
  refine Lib.run_append_grow_zeros (P := P) w t tn ty e i z .i64 .i64 ht htn hi hz (some ⟨g, 0, none⟩) n cap olds ?_ k hk h0 hg (by omega) ?_ (growslice_fits hg hb)
  · have := run_firstCells_some (P := P) w.drew i.size n ⟨g, 0, none⟩ n cap olds hl (fun j u hu => by rw [World.cell?_drew]; exact hold j u hu)
    exact this
  · have : k * i.bytes ≤ (n + k) * i.bytes := Nat.mul_le_mul_right _ (by omega)
    omega

/-- a slice is built of so many elements, all of them written out -/
theorem bs_row (ht : P.underlying t = some (.slice e)) (hi : P.info? e = some i) (hz : i.zero = some z) (hsz : i.size = sz) (hzs : z.cells.size = sz) (h0 : 0 < sz) (w : World) (vs : List Value) (hv : ∀ v ∈ vs, v.cells.size = sz) (hn : vs.length * sz ≤ 16777216) :
    (bsRow t vs.length ((vs.zipIdx 0).map fun x => (x.2, x.1)).toArray).run P w = .ok (.slice (some ⟨w.heap.size, 0, none⟩) vs.length vs.length) (w.alloc (.cells (vs.flatMap fun v => v.cells.toList).toArray e)) := by
  subst hsz
  unfold bsRow
  have hle : ¬ (vs.length * i.size > 16777216) := by omega
  have hf := fun cells hc => Go.Great.fill_whole h0 vs cells hv hc
  by_cases hn0 : vs.length = 0
  · have : vs = [] := List.eq_nil_of_length_eq_zero hn0
    subst this
    simp [Instr.buildSlice, run_underlying ht, sizeOf, typeInfo, hi, Instr.fill, newRow, show Array.range 0 = #[] from by kernel_rfl]
  · have hne : ¬ (vs.length * i.size = 0) := by
      intro h
      rcases Nat.mul_eq_zero.1 h with h | h <;> omega
    have hfs := hf ((Array.range (vs.length * i.size)).map (z.cells[· % z.cells.size]!)) (by simp)
    simp [Instr.buildSlice, run_underlying ht, sizeOf, typeInfo, hi, hle, hne, zeroValue, hz, hfs, newRow]
end

end Go.Proofs.YtfnfgnhbnffagaaDoor
