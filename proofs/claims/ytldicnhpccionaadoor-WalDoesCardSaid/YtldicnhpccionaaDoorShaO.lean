/-
SHA-256 in the program: rows of bytes, and what is hashed.
-/
import Derived.Test.YtldicnhpccionaaDoorBlock
import Derived.Test.YtldicnhpccionaaDoorRow
namespace Go.Proofs.YtldicnhpccionaaDoor
open Go.RowKit
set_option linter.unusedVariables false
set_option linter.unusedSimpArgs false

/-- a byte -/
def U8 (x : Int) : Prop := 0 ≤ x ∧ x < 256
/-- the bytes that a slice leads to -/
structure Bs (w : World) (A : Option Addr) (n : Nat) (x : Nat → Int) : Prop where
  u8 : ∀ i, i < n → U8 (x i)
  mem : 0 < n → ∃ b o, A = some ⟨b, o, none⟩ ∧ b < w.heap.size ∧ ∀ i, i < n → w.cell? ⟨b, o + i, none⟩ = some (.int .u8 (x i))
theorem Bs.below {w w' : World} {A : Option Addr} {n : Nat} {x : Nat → Int} (h : Bs w A n x) (hb : Below w.heap.size w w') : Bs w' A n x :=
  ⟨h.u8, fun h0 => by
    obtain ⟨b, o, hA, hlt, hc⟩ := h.mem h0
    exact ⟨b, o, hA, Nat.lt_of_lt_of_le hlt hb.size, fun i hi => (hb.cell (p := ⟨b, o + i, none⟩) hlt).trans (hc i hi)⟩⟩
theorem Bs.ext {w : World} {A : Option Addr} {n : Nat} {x y : Nat → Int} (h : Bs w A n x) (e : ∀ i, i < n → x i = y i) : Bs w A n y :=
  ⟨fun i hi => e i hi ▸ h.u8 i hi, fun h0 => by
    obtain ⟨b, o, hA, hlt, hc⟩ := h.mem h0
    exact ⟨b, o, hA, hlt, fun i hi => e i hi ▸ hc i hi⟩⟩

def H0 : Nat → Int := fun i => ([1779033703, 3144134277, 1013904242, 2773480762, 1359893119, 2600822924, 528734635, 1541459225] : List Int).getD i 0
theorem H0_ok (i : Nat) : U32 (H0 i) := by
  unfold H0
  match i with
  | 0 | 1 | 2 | 3 | 4 | 5 | 6 | 7 => exact ⟨by decide, by decide⟩
  | n + 8 => exact ⟨by simp, by simp⟩
/-- the state behind so many blocks -/
def hashB (x : Nat → Int) : Nat → (Nat → Int)
  | 0 => H0
  | j + 1 => blockF (hashB x j) (fun i => x (64 * j + i))
theorem hashB_ok (x : Nat → Int) : ∀ j i, U32 (hashB x j i)
  | 0, i => H0_ok i
  | j + 1, i => blockF_ok _ _ i
/-- how many blocks -/
def nBl (n : Nat) : Nat := (n + 8) / 64 + 1
/-- the length's bytes -/
def lenB (n j : Nat) : Int := ((8 * n / 2 ^ (56 - 8 * j) : Nat) : Int) % 256
/-- bytes, and what stands behind them -/
def padI (x : Nat → Int) (n : Nat) : Nat → Int := fun i => if i < n then x i else if i = n then 128 else if 64 * nBl n ≤ i + 8 then lenB n (i + 8 - 64 * nBl n) else 0
theorem padI_lt {x : Nat → Int} {n i : Nat} (h : i < n) : padI x n i = x i := by unfold padI; rw [if_pos h]
/-- the digest's bytes -/
def digI (x : Nat → Int) (n : Nat) : Nat → Int := fun i => hashB (padI x n) (nBl n) (i / 4) / 2 ^ (24 - 8 * (i % 4)) % 256
theorem u8_mod (a : Int) : U8 (a % 256) := ⟨by omega, by omega⟩
theorem digI_ok (x : Nat → Int) (n i : Nat) : U8 (digI x n i) := u8_mod _

/-! ### rows that are written over -/
/-- numbers laid over an array's, from a place on -/
def over (f : Nat → Int) (o k : Nat) (g : Nat → Int) : Nat → Int := fun i => if o ≤ i ∧ i < o + k then g (i - o) else f i
def bytesL (k : Nat) (g : Nat → Int) : List Value := (List.range k).map fun i => Value.int .u8 (g i)
theorem bytesL_length (k : Nat) (g : Nat → Int) : (bytesL k g).length = k := by simp [bytesL]
theorem bytesL_get (k : Nat) (g : Nat → Int) (j : Nat) : (bytesL k g)[j]? = if j < k then some (.int .u8 (g j)) else none := by
  unfold bytesL
  rw [List.getElem?_map]
  by_cases h : j < k
  · rw [if_pos h, List.getElem?_range h]; rfl
  · rw [if_neg h, List.getElem?_eq_none (by simp; omega)]; rfl
theorem bytesL_ones (k : Nat) (g : Nat → Int) : ∀ u ∈ bytesL k g, u.oneCell' = true := by
  intro u hu
  obtain ⟨i, -, rfl⟩ := List.mem_map.1 hu
  rfl
theorem lay_get {α : Type} (l vs : List α) (o : Nat) (h : o + vs.length ≤ l.length) (i : Nat) : (l.take o ++ vs ++ l.drop (o + vs.length))[i]? = if o ≤ i ∧ i < o + vs.length then vs[i - o]? else l[i]? := by
  rw [List.append_assoc]
  have hl : (l.take o).length = o := by rw [List.length_take, Nat.min_eq_left (by omega)]
  by_cases h1 : i < o
  · rw [if_neg (by omega), List.getElem?_append_left (by omega), List.getElem?_take, if_pos h1]
  · rw [List.getElem?_append_right (by omega), hl]
    by_cases h2 : i < o + vs.length
    · rw [if_pos (by omega), List.getElem?_append_left (by omega)]
    · rw [if_neg (by omega), List.getElem?_append_right (by omega), List.getElem?_drop]
      rw [show o + vs.length + (i - o - vs.length) = i by omega]
theorem spl_get (cur : Array Value) (o : Nat) (vs : List Value) (h : o + vs.length ≤ cur.size) (i : Nat) : (spl cur o vs)[i]? = if o ≤ i ∧ i < o + vs.length then vs[i - o]? else cur[i]? := by
  have := lay_get cur.toList vs o (by simpa using h) i
  unfold spl
  rw [List.getElem?_toArray, this]
  split
  · rfl
  · exact Array.getElem?_toList
theorem spl_arr {n o k : Nat} (f g : Nat → Int) (h : o + k ≤ n) : spl (arrK .u8 n f) o (bytesL k g) = arrK .u8 n (over f o k g) := by
  apply Array.ext_getElem?
  intro i
  rw [spl_get _ _ _ (by rw [arrK_size, bytesL_length]; exact h), bytesL_length, bytesL_get]
  by_cases hi : i < n
  · rw [arrK_get .u8 _ hi, arrK_get .u8 _ hi]
    unfold over
    by_cases c : o ≤ i ∧ i < o + k
    · rw [if_pos c, if_pos c, if_pos (by omega)]
    · rw [if_neg c, if_neg c]
  · rw [if_neg (by omega), Array.getElem?_eq_none (by rw [arrK_size]; omega), Array.getElem?_eq_none (by rw [arrK_size]; omega)]
theorem Arr.splice {w : World} {g : Nat} {t : TypeId} {n o k : Nat} {f x : Nat → Int} (h : Arr w g t .u8 n f) (ho : o + k ≤ n) : Arr (w.setRow g (spl (arrK .u8 n f) o (bytesL k x))) g t .u8 n (over f o k x) := by
  unfold Arr at *
  rw [setRow_heap w g _ _ _ _ h, spl_arr f x ho]

/-! ### the builtins at bytes -/
set_option maxRecDepth 100000 in
theorem infoB : (Tryd.prog.info? 5).map (fun i => (i.zero, i.size, i.bytes)) = some (some (.int .u8 0), 1, 1) := by kernel_rfl
@[go_sem ↓] theorem cp_B (ty : TypeId) (args : Array Value) : Builtin.copy_ #[25, 25] ty args = cpRow #[25, 25] ty args := rfl
@[go_sem ↓] theorem cl_B (ty : TypeId) (args : Array Value) : Builtin.clear_ #[25] ty args = clRow #[25] ty args := rfl
theorem copy_B {w : World} {g o n dl dc m c k : Nat} {f x : Nat → Int} {t : TypeId} (ty : TypeId) (h : Arr w g t .u8 n f) (hk : Nat.min m dl = k) (ho : o + k ≤ n) (ad : Addr) (hx : ∀ i, i < k → w.cell? (ad.add i) = some (.int .u8 (x i))) :
    (cpRow #[25, 25] ty #[.slice (some ⟨g, o, none⟩) dl dc, .slice (some ad) m c]).run Tryd.prog w = .ok (.int .i64 (k : Int)) (w.setRow g (spl (arrK .u8 n f) o (bytesL k x))) := by
  obtain ⟨i0, hi, hz0, hz1, hz2⟩ := info_parts infoB
  have hf := run_firstCells_some (P := Tryd.prog) w i0.size k ad m c (bytesL k x) (by rw [bytesL_length, hz1, Nat.mul_one]) (fun j u hu => by
    rw [bytesL_get] at hu
    split at hu
    · rename_i hj; obtain rfl := Option.some.inj hu; exact hx j hj
    · cases hu)
  have hst := store_at (P := Tryd.prog) h (o := o) (bytesL k x) (by rw [bytesL_length, arrK_size]; exact ho) (bytesL_ones k x)
  unfold cpRow
  simp [Builtin.copy_, run_underlying Tryd.underlying25, sizeOf, typeInfo, hi, Builtin.lenOf, hk, hf, hst, goInt]
theorem zeros_B (n : Nat) : (Builtin.zeroCells (Value.int .u8 0).cells n).toList = bytesL n fun _ => 0 := by
  unfold Builtin.zeroCells bytesL
  rw [Array.toList_map, Array.toList_range]
  show List.map _ (List.range (n * 1)) = _
  rw [Nat.mul_one]
  exact List.map_congr_left fun i _ => by rw [show i % (Value.int IntKind.u8 0).cells.size = 0 from Nat.mod_one i]; rfl
theorem clear_B {w : World} {g o n m c : Nat} {f : Nat → Int} {t : TypeId} (ty : TypeId) (h : Arr w g t .u8 n f) (h0 : 0 < m) (ho : o + m ≤ n) :
    (clRow #[25] ty #[.slice (some ⟨g, o, none⟩) m c]).run Tryd.prog w = .ok (.tuple #[]) (w.setRow g (spl (arrK .u8 n f) o (bytesL m fun _ => 0))) := by
  obtain ⟨i0, hi, hz0, hz1, hz2⟩ := info_parts infoB
  have hst := store_at (P := Tryd.prog) h (o := o) (bytesL m fun _ => 0) (by rw [bytesL_length, arrK_size]; exact ho) (bytesL_ones _ _)
  have hz := zeros_B m
  obtain ⟨m, rfl⟩ : ∃ k, m = k + 1 := ⟨m - 1, by omega⟩
  unfold clRow
  simp [Builtin.clear_, run_underlying Tryd.underlying25, zeroValue, typeInfo, hi, hz0, hz, hst]

theorem slice_buf {a : Nat} (g : Nat) (h : a < 64) (w : World) : (Instr.sliceAt 105 (.pointer (some ⟨g, 0, none⟩)) (some (.int .i64 a)) none none).run Tryd.prog w = .ok (.slice (some ⟨g, a, none⟩) (64 - a) (64 - a)) w := by
  have hl : Tryd.prog.arrayLen 105 = 64 := by kernel_rfl
  have he : Tryd.prog.elem 105 = 5 := by kernel_rfl
  have ht : Tryd.prog.underlying 105 = some (.array (Tryd.prog.arrayLen 105) (Tryd.prog.elem 105)) := by rw [hl, he]; exact Tryd.underlying105
  obtain ⟨i0, hi, hz0, hz1, hz2⟩ := info_parts infoB
  have := run_sliceAt_array_l w 105 ⟨g, 0, none⟩ ht .i64 (a : Int) (by omega) (by rw [hl]; omega)
  rw [this, hl, he]
  have hne : ¬ 64 = a := by omega
  simp [sizeOf, typeInfo, hi, hz1, slicedAt, hne, Addr.add]
  exact Eq.symm
theorem slice_end (g : Nat) (w : World) : (Instr.sliceAt 105 (.pointer (some ⟨g, 0, none⟩)) (some (.int .i64 64)) none none).run Tryd.prog w = .ok (.slice (some ⟨g, 0, none⟩) 0 0) w := by
  have hl : Tryd.prog.arrayLen 105 = 64 := by kernel_rfl
  have he : Tryd.prog.elem 105 = 5 := by kernel_rfl
  have ht : Tryd.prog.underlying 105 = some (.array (Tryd.prog.arrayLen 105) (Tryd.prog.elem 105)) := by rw [hl, he]; exact Tryd.underlying105
  obtain ⟨i0, hi, hz0, hz1, hz2⟩ := info_parts infoB
  have := run_sliceAt_array_l w 105 ⟨g, 0, none⟩ ht .i64 64 (by omega) (by rw [hl]; omega)
  rw [this, hl, he]
  simp [sizeOf, typeInfo, hi, hz1, slicedAt]
theorem clear_none {w : World} {A : Option Addr} {c : Nat} (ty : TypeId) : (clRow #[25] ty #[.slice A 0 c]).run Tryd.prog w = .ok (.tuple #[]) w := by
  unfold clRow
  cases A <;> simp [Builtin.clear_, run_underlying Tryd.underlying25]

end Go.Proofs.YtldicnhpccionaaDoor
