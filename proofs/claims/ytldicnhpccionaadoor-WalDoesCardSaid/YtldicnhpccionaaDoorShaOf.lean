/-
SHA-256 in the program: the digest of bytes.
-/
import Derived.Test.YtldicnhpccionaaDoorShaO
import Derived.Deep.DeepCutAuto
namespace Go.Proofs.YtldicnhpccionaaDoor
open Go.RowKit
set_option linter.unusedVariables false
set_option linter.unusedSimpArgs false

theorem f16_ext {p p' : Nat → Int} (h : ∀ i, i < 64 → p i = p' i) : f16 p = f16 p' := by
  funext i
  unfold f16
  by_cases c : i < 16
  · rw [if_pos c, if_pos c, h _ (by omega), h _ (by omega), h _ (by omega), h _ (by omega)]
  · rw [if_neg c, if_neg c]
theorem sch_ext {p p' : Nat → Int} (h : ∀ i, i < 64 → p i = p' i) : ∀ j, sch p j = sch p' j
  | 0 => f16_ext h
  | j + 1 => by
    show upd (sch p j) (16 + j) (nxt (sch p j) (16 + j)) = upd (sch p' j) (16 + j) (nxt (sch p' j) (16 + j))
    rw [sch_ext h j]
theorem rounds_ext {h p p' : Nat → Int} (e : ∀ i, i < 64 → p i = p' i) : ∀ j, rounds h p j = rounds h p' j
  | 0 => rfl
  | j + 1 => by
    show rnd (rounds h p j) (tabK j) (sch p 48 j) = rnd (rounds h p' j) (tabK j) (sch p' 48 j)
    rw [rounds_ext e j, sch_ext e 48]
theorem blockF_ext {h p p' : Nat → Int} (e : ∀ i, i < 64 → p i = p' i) : blockF h p = blockF h p' := by
  funext j
  unfold blockF
  rw [rounds_ext e 64]

theorem arr_newB {w : World} {c : Array Value} {t : TypeId} {n : Nat} (h : c = arrK .u8 n fun _ => 0) : Arr (w.alloc (.cells c t)) w.heap.size t .u8 n (fun _ => 0) := by
  subst h
  exact heap_alloc_new _ _
/-- so many bytes are taken in; B stands in the buffer -/
structure Proc (x : Nat → Int) (w0 : World) (q at' : Nat) (B : Nat → Int) (wr : World) : Prop where
  st : Arr wr (w0.heap.size + 1) 104 .u32 8 (hashB x q)
  buf : Arr wr (w0.heap.size + 1 + 1) 105 .u8 64 B
  u8 : ∀ i, U8 (B i)
  eq : ∀ i, i < at' → B i = x (64 * q + i)
  out : ∃ c, wr.heap[w0.heap.size]? = some (.cells c 67 (0, 0)) ∧ SizeIs c 32
  bel : Below w0.heap.size w0 wr
theorem proc_start {x : Nat → Int} {w : World} {c0 c1 c2 : Array Value} (h0 : c0.size = 32) (h1 : c1 = arrK .u32 8 H0) (h2 : c2 = arrK .u8 64 fun _ => 0) :
    Proc x w 0 0 (fun _ => 0) (((w.alloc (.cells c0 67)).alloc (.cells c1 104)).alloc (.cells c2 105)) := by
  subst h1; subst h2
  refine ⟨?_, ?_, fun i => ⟨by decide, by decide⟩, fun i hi => by omega, ⟨c0, ?_, h0⟩, (((Below.refl _ _).alloc (Nat.le_refl _) _).alloc (by simp) _).alloc (by simp; omega) _⟩
  · show _ = _
    rw [Below.heap_alloc _ _ _ (by simp)]
    have := heap_alloc_new (w.alloc (.cells c0 67)) (.cells (arrK .u32 8 H0) 104)
    simpa [hashB] using this
  · have := heap_alloc_new ((w.alloc (.cells c0 67)).alloc (.cells (arrK .u32 8 H0) 104)) (.cells (arrK .u8 64 fun _ => 0) 105)
    unfold Arr
    simpa using this
  · rw [Below.heap_alloc _ _ _ (by simp; omega), Below.heap_alloc _ _ _ (by simp)]
    exact heap_alloc_new _ _
theorem below_set {B : Nat} {w w1 : World} {g : Nat} (h : Below B w w1) (hg : B ≤ g) (cs : Array Value) : Below B w (w1.setRow g cs) := below_setRow h hg cs
theorem over_lt {f x : Nat → Int} {o k i : Nat} (h : i < o) : over f o k x i = f i := by unfold over; rw [if_neg (by omega)]
theorem over_in {f x : Nat → Int} {o k i : Nat} (h : o ≤ i) (h2 : i < o + k) : over f o k x i = x (i - o) := by unfold over; rw [if_pos ⟨h, h2⟩]
theorem over_u8 {f x : Nat → Int} {o k : Nat} (hf : ∀ i, U8 (f i)) (hx : ∀ i, i < k → U8 (x i)) (i : Nat) : U8 (over f o k x i) := by
  unfold over
  split
  · exact hx _ (by omega)
  · exact hf i
/-- bytes are copied into the buffer -/
theorem Proc.copy {X : Nat → Int} {w wr : World} {q a k : Nat} {B : Nat → Int} (h : Proc X w q a B wr) (hk : a + k ≤ 64) (hu : ∀ i, i < k → U8 (X (64 * q + a + i))) :
    Proc X w q (a + k) (over B a k fun i => X (64 * q + a + i)) (wr.setRow (w.heap.size + 1 + 1) (spl (arrK .u8 64 B) a (bytesL k fun i => X (64 * q + a + i)))) := by
  refine ⟨h.st.of (setRow_other wr _ _ _ (by omega)), h.buf.splice hk, over_u8 h.u8 hu, fun i hi => ?_, ?_, below_set h.bel (by omega) _⟩
  · by_cases c : i < a
    · rw [over_lt c, h.eq i c]
    · rw [over_in (by omega) (by omega)]
      congr 1; omega
  · obtain ⟨c, hc, hs⟩ := h.out
    exact ⟨c, (setRow_other wr _ _ _ (by omega)).trans hc, hs⟩
/-- the buffer is full, and taken in -/
theorem Proc.block {X : Nat → Int} {w wr w' : World} {q : Nat} {B : Nat → Int} (h : Proc X w q 64 B wr) (hst : Arr w' (w.heap.size + 1) 104 .u32 8 (blockF (hashB X q) B)) (hg : wr.grownBy w' (some (w.heap.size + 1))) : Proc X w (q + 1) 0 B w' := by
  refine ⟨?_, h.buf.of (hg.block _ h.buf.lt (by intro e; injection e with e; omega)), h.u8, fun i hi => by omega, ?_, h.bel.grown hg h.bel.size (fun k hk => by injection hk with hk; omega)⟩
  · have : blockF (hashB X q) B = hashB X (q + 1) := blockF_ext h.eq
    rw [← this]; exact hst
  · obtain ⟨c, hc, hs⟩ := h.out
    exact ⟨c, (hg.block _ (Array.getElem?_eq_some_iff.1 hc).1 (by intro e; injection e with e; omega)).trans hc, hs⟩
theorem Proc.drewN {X : Nat → Int} {w wr : World} {q a : Nat} {B : Nat → Int} (h : Proc X w q a B wr) (n : Nat) : Proc X w q a B (wr.drewN n) := ⟨h.st, h.buf, h.u8, h.eq, h.out, below_drewN h.bel n⟩
theorem Proc.tab {X : Nat → Int} {w wr : World} {q a : Nat} {B : Nat → Int} (h : Proc X w q a B wr) (h0 : 0 < w.heap.size) (ht : Tab w) : Tab wr := fun i hi => (h.bel.cell (p := ⟨0, i, none⟩) h0).trans (ht i hi)
theorem Proc.byt {X : Nat → Int} {w wr : World} {q a : Nat} {B : Nat → Int} (h : Proc X w q a B wr) : Byt wr (w.heap.size + 1 + 1) 0 64 B := fun i hi => ⟨by rw [Nat.zero_add]; exact h.buf.cell hi, (h.u8 i).1, (h.u8 i).2⟩
theorem Proc.call {X : Nat → Int} {w wr : World} {q : Nat} {B : Nat → Int} (h : Proc X w q 64 B wr) (htab : Tab wr) :
    Calls Tryd.prog 58 #[.pointer (some ⟨w.heap.size + 1, 0, none⟩), .slice (some ⟨w.heap.size + 1 + 1, 0, none⟩) 64 64] wr fun e w' => e = .returned (.tuple #[]) ∧ Proc X w (q + 1) 0 B w' :=
  (block_any (w.heap.size + 1) (w.heap.size + 1 + 1) 0 64 (hashB X q) B wr h.st h.byt (by omega) (by omega) htab (by omega) (hashB_ok X q)).mono fun e w' ⟨he, h1, h2⟩ => ⟨he, h.block h1 h2⟩

/-- the mark behind the bytes, and nothing behind it -/
def marked (B : Nat → Int) (a : Nat) : Nat → Int := fun i => if i < a then B i else if i = a then 128 else 0
theorem Proc.mark {X : Nat → Int} {w wr : World} {q a : Nat} {B : Nat → Int} (h : Proc X w q a B wr) (ha : a < 64) (ty : TypeId) : ∃ v W2,
    (∀ w', (Instr.sliceAt 105 (.pointer (some ⟨w.heap.size + 1 + 1, 0, none⟩)) (some (.int .i64 ((a : Int) + 1))) none none).run Tryd.prog w' = .ok v w') ∧
    (clRow #[25] ty #[v]).run Tryd.prog (wr.setCell ⟨w.heap.size + 1 + 1, a, none⟩ (.int .u8 128)) = .ok (.tuple #[]) W2 ∧ Proc X w q a (marked B a) W2 := by
  have A1 := h.buf.set a 128
  have ho : ∃ c, (wr.setCell ⟨w.heap.size + 1 + 1, a, none⟩ (.int .u8 128)).heap[w.heap.size]? = some (.cells c 67 (0, 0)) ∧ SizeIs c 32 := by
    obtain ⟨c, hc, hs⟩ := h.out
    exact ⟨c, (heap_setCell_other wr _ _ _ (by show w.heap.size ≠ w.heap.size + 1 + 1; omega)).trans hc, hs⟩
  have hst := h.st.of (heap_setCell_other wr ⟨w.heap.size + 1 + 1, a, none⟩ (w.heap.size + 1) (.int .u8 128) (by show w.heap.size + 1 ≠ w.heap.size + 1 + 1; omega))
  have hbel := h.bel.setCell (p := ⟨w.heap.size + 1 + 1, a, none⟩) (by show w.heap.size ≤ w.heap.size + 1 + 1; omega) (.int .u8 128)
  have hu : ∀ i, U8 (marked B a i) := fun i => by
    unfold marked
    split
    · exact h.u8 i
    · split
      · exact ⟨by decide, by decide⟩
      · exact ⟨by decide, by decide⟩
  have he : ∀ i, i < a → marked B a i = X (64 * q + i) := fun i hi => by unfold marked; rw [if_pos hi]; exact h.eq i hi
  by_cases c : a + 1 < 64
  · refine ⟨.slice (some ⟨w.heap.size + 1 + 1, a + 1, none⟩) (64 - (a + 1)) (64 - (a + 1)), _, fun w' => ?_, clear_B ty A1 (show 0 < 64 - (a + 1) by omega) (show a + 1 + (64 - (a + 1)) ≤ 64 by omega), ?_⟩
    · have := slice_buf (w.heap.size + 1 + 1) c w'
      simpa using this
    · have A2 := (A1.splice (o := a + 1) (k := 64 - (a + 1)) (x := fun _ => 0) (by omega)).ext (f' := marked B a) fun i hi => by
        unfold over marked upd
        by_cases c1 : i < a
        · rw [if_neg (by omega), if_neg (by omega), if_pos c1]
        · by_cases c2 : i = a
          · rw [if_neg (by omega), if_pos c2, if_neg c1, if_pos c2]
          · rw [if_pos (by omega), if_neg c1, if_neg c2]
      refine ⟨hst.of (setRow_other _ _ _ _ (by omega)), A2, hu, he, ?_, below_set hbel (by omega) _⟩
      obtain ⟨c', hc, hs⟩ := ho
      exact ⟨c', (setRow_other _ _ _ _ (by omega)).trans hc, hs⟩
  · obtain rfl : a = 63 := by omega
    refine ⟨_, _, fun w' => slice_end _ w', clear_none ty, ?_⟩
    refine ⟨hst, A1.ext fun i hi => ?_, hu, he, ho, hbel⟩
    unfold upd marked
    by_cases c1 : i < 63
    · rw [if_neg (by omega), if_pos c1]
    · rw [if_pos (by omega), if_neg c1, if_pos (by omega)]
theorem nBl_big {n q a : Nat} (h : n = 64 * q + a) (ha : a < 64) (h56 : 56 ≤ a) : nBl n = q + 2 := by unfold nBl; omega
theorem nBl_small {n q a : Nat} (h : n = 64 * q + a) (h56 : a < 56) : nBl n = q + 1 := by unfold nBl; omega
theorem Proc.big {x : Nat → Int} {n : Nat} {w wr : World} {q a : Nat} {B : Nat → Int} (h : Proc (padI x n) w q a (marked B a) wr) (hn : n = 64 * q + a) (ha : a < 64) (h56 : 56 ≤ a) : Proc (padI x n) w q 64 (marked B a) wr := by
  refine ⟨h.st, h.buf, h.u8, fun i hi => ?_, h.out, h.bel⟩
  by_cases c : i < a
  · exact h.eq i c
  · have hb := nBl_big hn ha h56
    have hL : marked B a i = if i = a then 128 else 0 := by unfold marked; rw [if_neg c]
    rw [hL]
    by_cases c2 : i = a
    · rw [if_pos c2]
      unfold padI
      rw [if_neg (by omega), if_pos (by omega)]
    · rw [if_neg c2]
      unfold padI
      rw [if_neg (by omega), if_neg (by omega), if_neg (by rw [hb]; omega)]
theorem Proc.small {x : Nat → Int} {n : Nat} {w wr : World} {q a : Nat} {B : Nat → Int} (h : Proc (padI x n) w q a (marked B a) wr) (hn : n = 64 * q + a) (h56 : a < 56) : Proc (padI x n) w q 56 (marked B a) wr := by
  refine ⟨h.st, h.buf, h.u8, fun i hi => ?_, h.out, h.bel⟩
  by_cases c : i < a
  · exact h.eq i c
  · have hb := nBl_small hn h56
    have hL : marked B a i = if i = a then 128 else 0 := by unfold marked; rw [if_neg c]
    rw [hL]
    by_cases c2 : i = a
    · rw [if_pos c2]
      unfold padI
      rw [if_neg (by omega), if_pos (by omega)]
    · rw [if_neg c2]
      unfold padI
      rw [if_neg (by omega), if_neg (by omega), if_neg (by rw [hb]; omega)]
theorem Proc.wiped {x : Nat → Int} {n : Nat} {w wr : World} {q a : Nat} {B : Nat → Int} (h : Proc (padI x n) w (q + 1) 0 B wr) (hn : n = 64 * q + a) (ha : a < 64) (h56 : 56 ≤ a) :
    Proc (padI x n) w (q + 1) 56 (over B 0 64 fun _ => 0) (wr.setRow (w.heap.size + 1 + 1) (spl (arrK .u8 64 B) 0 (bytesL 64 fun _ => 0))) := by
  refine ⟨h.st.of (setRow_other _ _ _ _ (by omega)), h.buf.splice (by omega), over_u8 h.u8 (fun _ _ => ⟨by decide, by decide⟩), fun i hi => ?_, ?_, below_set h.bel (by omega) _⟩
  · rw [over_in (by omega) (by omega)]
    have hb := nBl_big hn ha h56
    unfold padI
    rw [if_neg (by omega), if_neg (by omega), if_neg (by rw [hb]; omega)]
  · obtain ⟨c', hc, hs⟩ := h.out
    exact ⟨c', (setRow_other _ _ _ _ (by omega)).trans hc, hs⟩
/-- a byte is laid into the buffer -/
theorem Proc.lay {X : Nat → Int} {w wr : World} {q a : Nat} {B : Nat → Int} (h : Proc X w q a B wr) (ha : a < 64) {v : Int} (hv : v = X (64 * q + a)) (hu : U8 v) : Proc X w q (a + 1) (upd B a v) (wr.setCell ⟨w.heap.size + 1 + 1, a, none⟩ (.int .u8 v)) := by
  refine ⟨h.st.of (heap_setCell_other _ _ _ _ (by show w.heap.size + 1 ≠ w.heap.size + 1 + 1; omega)), h.buf.set a v, fun i => ?_, fun i hi => ?_, ?_, h.bel.setCell (p := ⟨w.heap.size + 1 + 1, a, none⟩) (by show w.heap.size ≤ w.heap.size + 1 + 1; omega) _⟩
  · unfold upd; split
    · exact hu
    · exact h.u8 i
  · unfold upd
    by_cases c : i = a
    · rw [if_pos c, hv, c]
    · rw [if_neg c]; exact h.eq i (by omega)
  · obtain ⟨c', hc, hs⟩ := h.out
    exact ⟨c', (heap_setCell_other _ _ _ _ (by show w.heap.size ≠ w.heap.size + 1 + 1; omega)).trans hc, hs⟩
theorem pad_len {x : Nat → Int} {n Q i : Nat} (hQ : Q + 1 = nBl n) (hi : i < 8) : padI x n (64 * Q + (56 + i)) = lenB n i := by
  unfold padI
  have h1 : n < 64 * Q + 56 := by unfold nBl at hQ; omega
  rw [if_neg (by omega), if_neg (by omega), if_pos (by rw [← hQ]; omega)]
  congr 1
  rw [← hQ]; omega
theorem lenB_eq (n i : Nat) : (n : Int) * 8 / 2 ^ (56 - 8 * i) % 256 = lenB n i := by
  unfold lenB
  congr 1
  rw [Nat.mul_comm 8 n]
  push_cast
  rfl
/-- the digest's first bytes are there -/
def partD (d : Nat → Int) (i : Nat) : Nat → Int := fun j => if j < i then d j else 0
theorem partD_succ (d : Nat → Int) (i : Nat) : upd (partD d i) i (d i) = partD d (i + 1) := by
  funext j
  unfold upd partD
  by_cases e : j = i
  · subst e; rw [if_pos rfl, if_pos (by omega)]
  · rw [if_neg e]
    by_cases c : j < i
    · rw [if_pos c, if_pos (by omega)]
    · rw [if_neg c, if_neg (by omega)]
def lenV : Value → Nat
  | .slice _ l _ => l
  | _ => 0
set_option maxRecDepth 100000 in
set_option maxHeartbeats 4000000 in
theorem of_any (sb so scap : Nat) (A : Option Addr) (n cap : Nat) (x : Nat → Int) (w : World) (hs : w.cell? ⟨sb, so, none⟩ = some (.slice A n cap)) (hx : Bs w A n x) (hcap : n ≤ cap) (hn : n ≤ 1000000) (htab : Tab w) (hw0 : 0 < w.heap.size) :
    Calls Tryd.prog 51 #[.slice (some ⟨sb, so, none⟩) 1 scap] w fun e w' => e = .returned (.agg (arrK .u8 32 (digI x n))) ∧ Below w.heap.size w w' := by
  have hX := hx.ext (y := padI x n) fun i hi => (padI_lt hi).symm
  obtain ⟨X, hXd⟩ : ∃ X, padI x n = X := ⟨_, rfl⟩
  rw [hXd] at hX
  have HX := Lib.hid hX
  have HD := Lib.hid hXd
  have HT := Lib.hid htab
  have hsl := World.block_lt_of_cell? w _ hs
  have HS := Lib.hid hs
  have hn' := Lib.hid hn
  have hcap' := Lib.hid hcap
  have hni : (n : Int) ≤ 1000000 := by omega
  clear hx htab hs hn hcap hX hXd
  go_enter Tryd.func51, Tryd.ntmps51
  go_wp2_with fail
  generalize hW0 : World.alloc _ _ = W0
  have P0 : Proc X w 0 0 (fun _ => 0) W0 := by rw [← hW0]; exact proc_start rfl rfl (by kernel_rfl)
  clear hW0
  go_loopw [16, 5, 6] (fun t s a wr => ∃ k m : Nat, k ≤ 1 ∧ m = k * n ∧ t = .int .i64 k ∧ s = .int .i64 m ∧ a = .int .i64 ((m % 64 : Nat) : Int) ∧ ∃ B, Proc X w (m / 64) (m % 64) B wr) (fun t _ _ _ => 1 - (intOf t).toNat)
  case atStart => exact ⟨0, 0, by omega, by omega, rfl, rfl, rfl, _, P0⟩
  case round =>
    obtain ⟨k, m, hk, hm, rfl, rfl, rfl, B0, P1⟩ := hrel
    by_cases hlt : k < 1
    · have hk0 := Lib.hid (show k = 0 by omega)
      have hm0 : m = 0 := by rw [hm, hk0.out, Nat.zero_mul]
      have hsc : wr.cell? ⟨sb, so + k, none⟩ = some (.slice A n cap) := by rw [hk0.out, Nat.add_zero]; exact (P1.bel.cell (p := ⟨sb, so, none⟩) hsl).trans HS.out
      have P1 : ∃ B, Proc X w 0 0 B wr := ⟨B0, by rw [hm0] at P1; exact P1⟩
      have hat : m % 64 = 0 := by omega
      have hmb : (m : Int) ≤ 0 := by omega
      have hma : (0 : Int) ≤ m := by omega
      have hk1 : (k : Int) < 1 := by omega
      have hk2 : (0 : Int) ≤ k := by omega
      have P1 := Lib.hid P1
      rw [hat]
      have HM := Lib.hid hm0
      clear hm hm0 hat
      go_wp2_with fail
      clear hsc
      go_loopw [6, 8] (fun ta tp wv => ∃ (c a q : Nat) (B : Nat → Int) (A' : Option Addr) (cap' : Nat), c ≤ n ∧ c = 64 * q + a ∧ a < 64 ∧ ta = .int .i64 a ∧ tp = .slice A' (n - c) cap' ∧ n - c ≤ cap' ∧
        (c < n → ∃ b o, A' = some ⟨b, o, none⟩ ∧ b < w.heap.size ∧ ∀ i, i < n - c → w.cell? ⟨b, o + i, none⟩ = some (.int .u8 (X (c + i)))) ∧ Proc X w q a B wv) (fun _ tp _ => lenV tp)
      case atStart =>
        obtain ⟨B, hB⟩ := P1.out
        exact ⟨0, 0, 0, B, A, cap, by omega, by omega, by omega, rfl, rfl, by have := hcap'.out; omega, fun h0 => by
          obtain ⟨b, o, hA, hb, hc⟩ := HX.out.mem h0
          exact ⟨b, o, hA, hb, fun i hi => by rw [Nat.zero_add]; exact hc i hi⟩, hB⟩
      case round =>
        obtain ⟨wv, hwv⟩ : ∃ y, y = wr := ⟨_, rfl⟩
        subst hwv
        obtain ⟨c, a, q, B, A', cap', hcn, hcq, ha, rfl, rfl, hcc, hmem, P2⟩ := hrel
        by_cases hlt2 : c < n
        · obtain ⟨b, o, rfl, hbl, hcell⟩ := hmem hlt2
          obtain ⟨k', hk'⟩ : ∃ k', Nat.min (n - c) (64 - a) = k' := ⟨_, rfl⟩
          have hk3 : k' ≤ n - c ∧ k' ≤ 64 - a ∧ (k' = n - c ∨ k' = 64 - a) := by
            rw [← hk']; simp only [Nat.min_def]; split <;> omega
          have hxs : ∀ i, i < k' → wv.cell? ((⟨b, o, none⟩ : Addr).add i) = some (.int .u8 (X (64 * q + a + i))) := fun i hi => by
            rw [Addr.add_mid, P2.bel.cell (p := ⟨b, o + i, none⟩) hbl, ← hcq]; exact hcell i (by omega)
          have hak : a + k' ≤ 64 := by omega
          have hu8 : ∀ i, i < k' → U8 (X (64 * q + a + i)) := fun i hi => by rw [← hcq]; exact HX.out.u8 (c + i) (by rw [Nat.add_comm]; exact Nat.add_lt_of_lt_sub (Nat.lt_of_lt_of_le hi hk3.1))
          have hcp := copy_B (w := wv) (g := w.heap.size + 1 + 1) (o := a) (n := 64) (dl := 64 - a) (dc := 64 - a) (m := n - c) (c := cap') (k := k') (f := B) (x := fun i => X (64 * q + a + i)) 3 P2.buf hk' hak ⟨b, o, none⟩ hxs
          have hsl2 := slice_buf (w.heap.size + 1 + 1) ha wv
          have P3 := Lib.hid (P2.copy hak hu8)
          have HTw : Tab wv := fun i hi => (P2.bel.cell (p := ⟨0, i, none⟩) hw0).trans (HT.out i hi)
          have HTW := Lib.hid HTw
          have ha0 : (0 : Int) ≤ a := by omega
          have ha1 : (a : Int) < 64 := by omega
          have hl0 : (0 : Int) < (n - c : Nat) := by omega
          have hkz : (0 : Int) ≤ k' := by omega
          have hkn : (k' : Int) ≤ (n - c : Nat) := by omega
          have hka : (a : Int) + k' ≤ 64 := by omega
          have e1 : IntKind.i64.wrap ((a : Int) + k') = ((a + k' : Nat) : Int) := by rw [IntWalk.i64_in _ (by omega)]; omega
          have hlc : ((n - c : Nat) : Int) ≤ cap' := by omega
          generalize hlen : n - c = len at *
          have HC := Lib.hid hcell
          clear hxs hcell hmem HTw P2 hu8
          go_wp2_with fail
          generalize hWc : wv.setRow (w.heap.size + 1 + 1) _ = wc at *
          clear hWc hcp hsl2
          have hcc2 : (cap' = k') ∨ ¬ cap' = k' := Classical.em _
          have hlk : 0 < k' := by omega
          rcases hcc2 with hc2 | hc2
          · subst hc2
            go_quiet (fail)
            have P4 := Lib.hid (P3.out.drewN nq)
            generalize wc.drewN nq = W4 at *
            by_cases h64 : a + cap' = 64
            · have g64 : ((a : Int) + cap' == 64) = true := by rw [beq_iff_eq]; omega
              have P5 := P4.out
              rw [h64] at P5
              have P5 := Lib.hid P5
              have HT4 := Lib.hid (P5.out.tab hw0 HT.out)
              clear P4 P3
              go_wp2_with fail
              refine (P5.out.call HT4.out).mono ?_
              rintro e w5 ⟨rfl, P6⟩
              have P6 := Lib.hid P6
              go_wp2_with fail
              go_roundw
              case rel => exact ⟨c + cap', 0, q + 1, _, (some ⟨b, o, none⟩), 0, by omega, by omega, by omega, rfl, by rw [show n - (c + cap') = 0 by omega], by omega, fun h0 => absurd h0 (by omega), P6.out⟩
              case measure => simp [lenV]; omega
            · have g64 : ((a : Int) + cap' == 64) = false := by rw [beq_eq_false_iff_ne]; omega
              clear P3
              go_wp2_with fail
              go_roundw
              case rel => exact ⟨c + cap', a + cap', q, _, (some ⟨b, o, none⟩), 0, by omega, by omega, by omega, by go_num, by rw [show n - (c + cap') = 0 by omega], by omega, fun h0 => absurd h0 (by omega), P4.out⟩
              case measure => simp [lenV]; omega
          · go_quiet (fail)
            have P4 := Lib.hid (P3.out.drewN nq)
            generalize wc.drewN nq = W4 at *
            by_cases h64 : a + k' = 64
            · have g64 : ((a : Int) + k' == 64) = true := by rw [beq_iff_eq]; omega
              have P5 := P4.out
              rw [h64] at P5
              have P5 := Lib.hid P5
              have HT4 := Lib.hid (P5.out.tab hw0 HT.out)
              clear P4 P3
              go_wp2_with fail
              refine (P5.out.call HT4.out).mono ?_
              rintro e w5 ⟨rfl, P6⟩
              have P6 := Lib.hid P6
              go_wp2_with fail
              go_roundw
              case rel => exact ⟨c + k', 0, q + 1, _, (some ⟨b, o + k', none⟩), (cap' - k'), by omega, by omega, by omega, rfl, by rw [show n - (c + k') = len - k' by omega], by omega, fun h0 => ⟨b, o + k', rfl, hbl, fun i hi => by rw [Nat.add_assoc, Nat.add_assoc]; exact HC.out (k' + i) (by omega)⟩, P6.out⟩
              case measure => simp [lenV]; omega
            · have g64 : ((a : Int) + k' == 64) = false := by rw [beq_eq_false_iff_ne]; omega
              clear P3
              go_wp2_with fail
              go_roundw
              case rel => exact ⟨c + k', a + k', q, _, (some ⟨b, o + k', none⟩), (cap' - k'), by omega, by omega, by omega, by go_num, by rw [show n - (c + k') = len - k' by omega], by omega, fun h0 => ⟨b, o + k', rfl, hbl, fun i hi => by rw [Nat.add_assoc, Nat.add_assoc]; exact HC.out (k' + i) (by omega)⟩, P4.out⟩
              case measure => simp [lenV]; omega
        · have hcn2 : c = n := by omega
          have P7 := Lib.hid P2
          have hq1 : n / 64 = q := by omega
          have hq2 : n % 64 = a := by omega
          have hl0 : n - c = 0 := by omega
          have HK := Lib.hid hk0.out
          rw [hl0]
          have HQ := Lib.hid (And.intro hq1 hq2)
          clear hmem P2 hq1 hq2 hl0 hcq hcn hcc hcn2
          go_wp2_with fail
          go_roundw
          case rel => exact ⟨k + 1, n, by omega, by rw [hk0.out]; omega, by go_num, by rw [HM.out]; go_num, by rw [HQ.out.2], B, by rw [HQ.out.1, HQ.out.2]; exact P7.out⟩
          case measure => simp [intOf]; omega
    · have hk1 := Lib.hid (show k = 1 by omega)
      have hmn : n = m := by rw [hm, hk1.out]; omega
      have P8 := Lib.hid P1
      clear P1 P0 hm
      subst hmn
      obtain ⟨a, ha⟩ : ∃ a, n % 64 = a := ⟨_, rfl⟩
      obtain ⟨q, hq⟩ : ∃ q, n / 64 = q := ⟨_, rfl⟩
      have P8 := P8.out
      rw [ha, hq] at P8
      rw [ha]
      have hal : a < 64 := by omega
      have ha0 : (0 : Int) ≤ a := by omega
      have ha1 : (a : Int) < 64 := by omega
      have c0 := P8.buf.cell (i := a) hal
      have z0 := P8.buf.frozen a
      have hnq : n = 64 * q + a := by omega
      obtain ⟨v2, W2, hs2, hc2, P10⟩ := P8.mark hal 0
      have P10 := Lib.hid P10
      have HNQ := Lib.hid hnq
      have HB := Lib.hid P8.bel.size
      have HXD := HD.out
      clear P8 ha hq hnq
      subst HXD
      go_upto_if 48 with fail
      go_cut [] (fun wx => ∃ Q C, Q + 1 = nBl n ∧ Proc (padI x n) w Q 56 C wx)
      case first =>
        by_cases h56 : 56 ≤ a
        · have g56 : (56 : Int) ≤ a := by omega
          have P11 := Lib.hid (P10.out.big HNQ.out hal h56)
          have HT2 := Lib.hid (P10.out.tab hw0 HT.out)
          clear P10
          go_wp2_with fail
          refine (P11.out.call HT2.out).mono ?_
          rintro e w5 ⟨rfl, P12⟩
          have hcl := clear_B (m := 64) (c := 64) 0 P12.buf (by omega) (show 0 + 64 ≤ 64 by omega)
          have P13 := Lib.hid (P12.wiped HNQ.out hal h56)
          have hz : w.heap.size + 1 + 1 < w5.heap.size := P12.buf.lt
          clear P12 P11
          go_wp2_with fail
          go_meet
          case rel => exact ⟨q + 1, _, by rw [nBl_big HNQ.out hal h56], P13.out⟩
        · have g56 : ¬ (56 : Int) ≤ a := by omega
          have P11 := Lib.hid (P10.out.small HNQ.out (by omega))
          clear P10
          go_wp2_with fail
          go_meet
          case rel => exact ⟨q, _, by rw [nBl_small HNQ.out (by omega)], P11.out⟩
      case rest =>
        obtain ⟨Q, C, hQ, P14⟩ := hcut
        have P14 := Lib.hid P14
        go_wp2_with fail
        go_loopw [52] (fun t wr => ∃ i : Nat, i ≤ 8 ∧ t = .int .i64 i ∧ ∃ C, Proc (padI x n) w Q (56 + i) C wr) (fun t _ => 8 - (intOf t).toNat)
        case atStart => exact ⟨0, by omega, rfl, C, P14.out⟩
        case round =>
          obtain ⟨wv, hwv⟩ : ∃ y, y = wr := ⟨_, rfl⟩
          subst hwv
          obtain ⟨i, hi, rfl, C2, P15⟩ := hrel
          by_cases hlt8 : i < 8
          · have hi0 : (0 : Int) ≤ i := by omega
            have hi1 : (i : Int) < 8 := by omega
            have c1 := P15.buf.cell (i := 56 + i) (by omega)
            have z1 := P15.buf.frozen (56 + i)
            have e3 : (56 : Int) - 8 * i = ((56 - 8 * i : Nat) : Int) := by omega
            have P16 := Lib.hid P15
            have hlen := Lib.hid (pad_len (x := x) hQ hlt8)
            clear P15 P14
            go_wp2_with fail
            go_roundw
            case rel => exact ⟨i + 1, by omega, by go_num, _, P16.out.lay (by omega) ((lenB_eq n i).trans hlen.out.symm) (u8_mod _)⟩
            case measure => simp [intOf]; omega
          · have hi8 : i = 8 := by omega
            have P17 := P15
            rw [hi8] at P17
            have P17 := Lib.hid P17
            have HT3 := Lib.hid (P15.tab hw0 HT.out)
            clear P15 P14 hi8
            go_wp2_with fail
            refine (P17.out.call HT3.out).mono ?_
            rintro e w5 ⟨rfl, P18⟩
            rw [hQ] at P18
            have P18 := Lib.hid P18
            go_wp2_with fail
            generalize hW6 : World.alloc w5 _ = W6
            have A6 : Arr W6 w5.heap.size 67 .u8 32 (fun _ => 0) := by rw [← hW6]; exact arr_newB (by kernel_rfl)
            have B6 : Below w5.heap.size w5 W6 := by rw [← hW6]; exact (Below.refl _ _).alloc (Nat.le_refl _) _
            clear hW6
            go_loopw [69] (fun t wr => ∃ j : Nat, j ≤ 32 ∧ t = .int .i64 j ∧ Arr wr w5.heap.size 67 .u8 32 (partD (digI x n) j) ∧ Below w5.heap.size w5 wr) (fun t _ => 32 - (intOf t).toNat)
            case atStart => exact ⟨0, by omega, rfl, A6.ext fun i _ => by unfold partD; rw [if_neg (by omega)], B6⟩
            case round =>
              obtain ⟨wx, hwx⟩ : ∃ y, y = wr := ⟨_, rfl⟩
              subst hwx
              obtain ⟨j, hj, rfl, A7, B7⟩ := hrel
              by_cases hlt32 : j < 32
              · have hj0 : (0 : Int) ≤ j := by omega
                have hj1 : (j : Int) < 32 := by omega
                have q1 := A7.cell (i := j) hlt32
                have z2 := A7.frozen j
                have st7 := P18.out.st.of (B7.block _ P18.out.st.lt)
                have q2 := st7.cell (i := j / 4) (by omega)
                obtain ⟨v1, v2'⟩ := hashB_ok (padI x n) (nBl n) (j / 4)
                have hd : hashB (padI x n) (nBl n) (j / 4) / 2 ^ (24 - 8 * (j % 4)) % 256 = digI x n j := rfl
                have HDD := Lib.hid hd
                generalize hashB (padI x n) (nBl n) (j / 4) = hv at *
                obtain ⟨u, hu⟩ : ∃ u, j / 4 = u := ⟨_, rfl⟩
                obtain ⟨v, hv4⟩ : ∃ v, j % 4 = v := ⟨_, rfl⟩
                rw [hu] at q2
                have HDV : hv / 2 ^ (24 - 8 * v) % 256 = digI x n j := by rw [← hv4]; exact HDD.out
                have HDV := Lib.hid HDV
                have l1 : (u : Int) < 8 := by omega
                have l2 : (v : Int) < 4 := by omega
                have l3 : (0 : Int) ≤ u := by omega
                have l4 : (0 : Int) ≤ v := by omega
                have e4 : (j : Int) / 4 = u := by omega
                have e5 : (j : Int) % 4 = v := by omega
                have e6 : (24 : Int) - 8 * v = ((24 - 8 * v : Nat) : Int) := by omega
                clear HDD hu hv4
                have B8 := Lib.hid (B7.setCell (p := ⟨w5.heap.size, j, none⟩) (Nat.le_refl _) (.int .u8 (digI x n j)))
                have A8 := A7.set j (digI x n j)
                rw [partD_succ] at A8
                have A8 := Lib.hid A8
                clear A7 st7 hd B7 P17 P18
                go_wp2_with fail
                go_roundw
                case rel => exact ⟨j + 1, by omega, by go_num, A8.out, B8.out⟩
                case measure => simp [intOf]; omega
              · have hj32 : j = 32 := by omega
                have A9 := A7.ext (f' := digI x n) fun i hi => by unfold partD; rw [if_pos (by omega)]
                have r9 := A9.row
                obtain ⟨cd, hcd, hsz⟩ := P18.out.out
                have hlt9 := (Array.getElem?_eq_some_iff.1 hcd).1
                have hone := arrK_ones .u8 32 (digI x n)
                obtain ⟨pr1, pr2⟩ := putRow_later (cs := arrK .u8 32 (digI x n)) B7 hcd hsz (arrK_size .u8 32 (digI x n)) hone
                have hfin := Lib.hid (below_set ((P18.out.bel).trans (B7.mono P18.out.bel.size)) (Nat.le_refl _) (arrK .u8 32 (digI x n)))
                clear A7 A9 B7 hcd hj32 P17 P18 hQ
                go_wp2_with fail
                refine bodyPost_ret (v := .agg (arrK .u8 32 (digI x n))) (by rw [results_cell1 Tryd.results51]; simp [go_sem, *]) rfl ?_
                exact ⟨rfl, hfin.out⟩

end Go.Proofs.YtldicnhpccionaaDoor
