/-
The package code's writer, and the frame of a record.
-/
import Derived.Test.YtldicnhpccionaaDoorShaOf
import Derived.Lib.AppendStr
import Derived.Lib.BufferRead
import Derived.ArgAppend
import Derived.Maps.AppendAt
namespace Go.Proofs.YtldicnhpccionaaDoor
open Go.RowKit
set_option linter.unusedVariables false
set_option linter.unusedSimpArgs false

@[go_sem ↓] theorem ap_B (ty : TypeId) (args : Array Value) : Builtin.append_ #[25, 25] ty args = apRow #[25, 25] ty args := rfl
@[go_sem ↓] theorem ap_BS (ty : TypeId) (args : Array Value) : Builtin.append_ #[25, 9] ty args = apRow #[25, 9] ty args := rfl

/-- bytes as cells -/
def bcs (l : List UInt8) : List Value := l.map fun b => Value.int .u8 b.toNat
/-- a text's length, in four bytes -/
def len4 (n : Nat) : List UInt8 := [UInt8.ofNat (n / 16777216), UInt8.ofNat (n / 65536), UInt8.ofNat (n / 256), UInt8.ofNat n]
def cells4 (n : Nat) : Array Value := #[.int .u8 ((n : Int) / 16777216), .int .u8 ((n : Int) / 65536), .int .u8 ((n : Int) / 256 % 256), .int .u8 ((n : Int) % 256)]
theorem u8_nat (k : Nat) : ((UInt8.ofNat k).toNat : Int) = ((k % 256 : Nat) : Int) := by simp
theorem cells4_eq {n : Nat} (h : n ≤ 100000) : (cells4 n).toList = bcs (len4 n) := by
  unfold cells4 len4 bcs
  simp only [List.map_cons, List.map_nil, u8_nat]
  have e1 : ((n / 16777216 % 256 : Nat) : Int) = (n : Int) / 16777216 := by omega
  have e2 : ((n / 65536 % 256 : Nat) : Int) = (n : Int) / 65536 := by omega
  have e3 : ((n / 256 % 256 : Nat) : Int) = (n : Int) / 256 % 256 := by omega
  have e4 : ((n % 256 : Nat) : Int) = (n : Int) % 256 := by omega
  rw [e1, e2, e3, e4]
theorem ones_bytes (l : List UInt8) : ∀ u ∈ bcs l, u.oneCell' = true := by
  intro u hu
  simp only [bcs, List.mem_map] at hu
  obtain ⟨b, _, rfl⟩ := hu
  rfl
theorem bcs_len (l : List UInt8) : (bcs l).length = l.length := by simp [bcs]
theorem bcs_app (l m : List UInt8) : bcs (l ++ m) = bcs l ++ bcs m := by simp [bcs]
/-- bytes of one's own -/
def OB (w : World) (B : Nat) (v : Value) (l : List UInt8) : Prop := w.ownsRow B 5 1 v l.length (bcs l)
/-- .. another row of one's own is appended -/
theorem ob_append {w : World} {B : Nat} {v : Value} {l m : List UInt8} (ty : TypeId) (h : OB w B v l) (a : Addr) (c : Nat) (hm : ∀ j u, (bcs m)[j]? = some u → w.cell? (a.add j) = some u) (hn : l.length + m.length ≤ 10000000) (hB : B ≤ w.heap.size) :
    ∃ v' w', (apRow #[25, 25] ty #[v, .slice (some a) m.length c]).run Tryd.prog w = .ok v' w' ∧ OB w' B v' (l ++ m) ∧ w.grownBy w' v.ownBlock ∧ (v'.ownBlock = v.ownBlock ∨ v'.ownBlock = some w.heap.size) := by
  obtain ⟨i0, hi, hz0, hz1, hz2⟩ := info_parts infoB
  obtain ⟨v', w', h1, h2, h3, -, h5⟩ := run_append_own_at (P := Tryd.prog) w B 25 ty 5 i0 (.int .u8 0) 1 1 Tryd.underlying25 hi hz0 hz1 hz2 rfl (by decide) v l.length (bcs l) h a m.length c (bcs m) (by rw [bcs_len, Nat.mul_one]) hm (ones_bytes m) (by simp only [maxLen]; omega) (by omega) hB
  exact ⟨v', w', h1, by unfold OB; rw [List.length_append, bcs_app]; exact h2, h3, h5⟩
theorem ob_text {w : World} {B : Nat} {v : Value} {l : List UInt8} (ty : TypeId) (h : OB w B v l) (s : ByteArray) (hn : l.length + s.size ≤ 10000000) (hB : B ≤ w.heap.size) :
    ∃ v' w', (apRow #[25, 9] ty #[v, .string s]).run Tryd.prog w = .ok v' w' ∧ OB w' B v' (l ++ s.data.toList) ∧ w.grownBy w' v.ownBlock := by
  obtain ⟨i0, hi, hz0, hz1, hz2⟩ := info_parts infoB
  obtain ⟨v', w', h1, h2, h3, -⟩ := Lib.run_append_own_string (P := Tryd.prog) w B 25 9 ty 5 i0 Tryd.underlying25 Tryd.underlying9 hi hz0 hz1 hz2 v l.length (bcs l) h s (by simp only [maxLen]; omega) (by omega) hB
  refine ⟨v', w', h1, ?_, h3⟩
  unfold OB
  rw [List.length_append, bcs_app]
  exact h2
theorem ob_nil (w : World) (B : Nat) : OB w B (.slice none 0 0) [] := World.ownsRow_nil _ _ _ _
theorem OB.alloc {w : World} {B : Nat} {v : Value} {l : List UInt8} (h : OB w B v l) (o : Obj) : OB (w.alloc o) B v l := World.ownsRow.alloc h o
theorem ob_lt {w : World} {B : Nat} {v : Value} {l : List UInt8} (h : OB w B v l) {g : Nat} (hg : v.ownBlock = some g) : B ≤ g ∧ g < w.heap.size := by
  rcases h.2 with ⟨rfl, -⟩ | ⟨g', cap, cur, rfl, hB, hh, -⟩
  · cases hg
  · simp [Value.ownBlock] at hg; subst hg; exact ⟨hB, (Array.getElem?_eq_some_iff.1 hh).1⟩

theorem ob_shape {w : World} {B : Nat} {v : Value} {l : List UInt8} {n : Nat} (h : OB w B v l) (hn : l.length = n) : ∃ A cap, v = .slice A n cap ∧ n ≤ cap := by
  subst hn
  rcases h.2 with ⟨rfl, h0⟩ | ⟨g', cap, cur, rfl, hB, hh, hc, -⟩
  · exact ⟨none, 0, by rw [h0], by omega⟩
  · exact ⟨_, cap, rfl, hc⟩
/-- what Text leaves: the writer's bytes -/
def Written (wb : Nat) (l : List UInt8) (w : World) (e : Ending) (w' : World) : Prop :=
  e = .returned (.tuple #[]) ∧ ∃ v, w'.cell? ⟨wb, 0, none⟩ = some v ∧ w'.frozen? ⟨wb, 0, none⟩ = false ∧ OB w' w.heap.size v l ∧ w.grownBy w' (some wb)

set_option maxRecDepth 100000 in
set_option maxHeartbeats 2000000 in
theorem text_any (wb sb so scap : Nat) (s : ByteArray) (w : World) (hw : w.cell? ⟨wb, 0, none⟩ = some (.slice none 0 0)) (hf : w.frozen? ⟨wb, 0, none⟩ = false) (hs : w.cell? ⟨sb, so, none⟩ = some (.string s)) (hn : s.size ≤ 100000) :
    Calls Tryd.prog 53 #[.pointer (some ⟨wb, 0, none⟩), .slice (some ⟨sb, so, none⟩) 1 scap] w (Written wb (len4 s.size ++ s.data.toList) w) := by
  have hni : (s.size : Int) ≤ 100000 := by omega
  have hwl := World.block_lt_of_cell? w _ hw
  -- the four bytes
  have hm4 : ∀ j u, (bcs (len4 s.size))[j]? = some u → (w.alloc (.cells (cells4 s.size) 5)).cell? ((⟨w.heap.size, 0, none⟩ : Addr).add j) = some u := fun j u hu => by
    rw [← cells4_eq hn] at hu
    rw [Addr.add_mid, Nat.zero_add, World.cell?_alloc_at _ _ _ _ rfl]
    simpa using hu
  obtain ⟨v1, w1, r1, o1, g1, b1⟩ := ob_append (w := w.alloc (.cells (cells4 s.size) 5)) (l := []) (m := len4 s.size) 25 (ob_nil _ w.heap.size) ⟨w.heap.size, 0, none⟩ 4 hm4 (by simp [len4]) (by simp)
  rw [List.nil_append] at o1
  obtain ⟨A1, cap1, rfl, -⟩ := ob_shape (n := 4) o1 rfl
  have hg1 : w.grownBy w1 none := ⟨g1.os, g1.tape, g1.output, Nat.le_trans (by simp) g1.size, fun k hk hne => (g1.block k (by simp; omega) (by simp [Value.ownBlock])).trans (Below.heap_alloc w _ k hk)⟩
  have c1 : w1.cell? ⟨wb, 0, none⟩ = some (.slice none 0 0) := (World.cell?_of_block (hg1.block wb hwl (by simp))).trans hw
  have f1 : w1.frozen? ⟨wb, 0, none⟩ = false := (World.frozen?_of_block (hg1.block wb hwl (by simp))).trans hf
  have o2 : OB (w1.setCell ⟨wb, 0, none⟩ (.slice A1 4 cap1)) w.heap.size (.slice A1 4 cap1) (len4 s.size) := ownsRow_setCell_below o1 hwl _
  have hsz := hg1.size
  have fc1 : (w1.setCell ⟨wb, 0, none⟩ (.slice A1 4 cap1)).frozen? ⟨wb, 0, none⟩ = false := by rw [World.frozen?_setCell]; exact f1
  have cc1 : (w1.setCell ⟨wb, 0, none⟩ (.slice A1 4 cap1)).cell? ⟨wb, 0, none⟩ = some (.slice A1 4 cap1) := World.cell?_setCell_same _ _ _ c1
  obtain ⟨v2, w2, r2, o3, g2⟩ := ob_text 25 o2 s (by simp [len4]; omega) (by simpa [World.setCell] using hsz)
  have hll : (len4 s.size ++ s.data.toList).length = 4 + s.size := by rw [List.length_append]; rfl
  obtain ⟨A2, cap2, rfl, -⟩ := ob_shape o3 hll
  have hob1 : some wb ≠ (Value.slice A1 4 cap1).ownBlock := fun e => by
    have := (ob_lt o2 e.symm).1; simp only at hwl; omega
  have hwl1 : wb < (w1.setCell ⟨wb, 0, none⟩ (.slice A1 4 cap1)).heap.size := by simp only at hwl; simp [World.setCell]; omega
  have c2 : w2.cell? ⟨wb, 0, none⟩ = some (.slice A1 4 cap1) := (World.cell?_of_block (g2.block wb hwl1 hob1)).trans cc1
  have f2 : w2.frozen? ⟨wb, 0, none⟩ = false := (World.frozen?_of_block (g2.block wb hwl1 hob1)).trans fc1
  have hfin : Written wb (len4 s.size ++ s.data.toList) w (.returned (.tuple #[])) (w2.setCell ⟨wb, 0, none⟩ (.slice A2 (4 + s.size) cap2)) := by
    refine ⟨rfl, _, World.cell?_setCell_same _ _ _ c2, by rw [World.frozen?_setCell]; exact f2, ownsRow_setCell_below o3 hwl _, ⟨?_, ?_, ?_, ?_, fun k hk hne => ?_⟩⟩
    · exact (g2.os.trans hg1.os)
    · exact (g2.tape.trans hg1.tape)
    · exact (g2.output.trans hg1.output)
    · have := g2.size; simp [World.setCell] at this ⊢; omega
    · have hne' : k ≠ wb := fun e => hne (by rw [e])
      rw [heap_setCell_other _ _ _ _ hne', g2.block k (by simp [World.setCell]; omega) (fun e => by have := (ob_lt o2 e.symm).1; simp only at hwl; omega), heap_setCell_other _ _ _ _ hne', hg1.block k hk (by simp)]
  have HF := Lib.hid hfin
  have e4 : cells4 s.size = #[.int .u8 ((s.size : Int) / 16777216), .int .u8 ((s.size : Int) / 65536), .int .u8 ((s.size : Int) / 256 % 256), .int .u8 ((s.size : Int) % 256)] := rfl
  rw [e4] at r1
  rw [show (len4 s.size).length = 4 from rfl] at r1
  clear hm4 e4 hfin o1 o2 o3 g1 g2 b1 hg1 hn hwl1 hob1 fc1
  go_enter Tryd.func53, Tryd.ntmps53
  go_wp2_with fail
  go_loopw [11] (fun t wr => ∃ k : Nat, k ≤ 1 ∧ t = .int .i64 k ∧ (k = 0 → wr = w) ∧ (k = 1 → wr = w2.setCell ⟨wb, 0, none⟩ (.slice A2 (4 + s.size) cap2))) (fun t _ => 1 - (intOf t).toNat)
  case atStart => exact ⟨0, by omega, rfl, fun _ => rfl, fun h => by omega⟩
  case round =>
    obtain ⟨k, hk, rfl, h0, h1⟩ := hrel
    by_cases hlt : k < 1
    · obtain rfl := h0 (by omega)
      have hk0 : k = 0 := by omega
      have hk1 : (k : Int) < 1 := by omega
      have hk2 : (0 : Int) ≤ k := by omega
      have hs' : wr.cell? ⟨sb, so + k, none⟩ = some (.string s) := by rw [hk0]; exact hs
      clear hk0 h0 h1 hs
      go_wp2_with fail
      go_roundw
      case rel => exact ⟨k + 1, by omega, by go_num, fun h => by omega, fun _ => trivial⟩
      case measure => simp [intOf]; omega
    · obtain rfl := h1 (by omega)
      clear h0 h1 hw hf c1 c2 f1 f2 cc1 r1 r2
      go_wp2_with fail
      go_end0
      exact HF.out

theorem ob_cells {w : World} {B : Nat} {l : List UInt8} {A : Option Addr} {n cap : Nat} (h : OB w B (.slice A n cap) l) (hl : l.length = n) (h0 : 0 < n) : ∃ g cur, A = some ⟨g, 0, none⟩ ∧ B ≤ g ∧ w.heap[g]? = some (.cells cur 5 (0, 0)) ∧ cur.size = cap ∧ n ≤ cap ∧ cur.toList.take n = bcs l ∧ ∀ j u, (bcs l)[j]? = some u → w.cell? ((⟨g, 0, none⟩ : Addr).add j) = some u := by
  rcases h.2 with ⟨hv, hn0⟩ | ⟨g, cap', cur, hv, hB, hh, hc, -, hs, hx⟩
  · omega
  · injection hv with e1 e2 e3
    subst e3
    rw [hl, Nat.mul_one] at hx
    refine ⟨g, cur, e1, hB, hh, by rw [hs, Nat.mul_one], by omega, hx, fun j u hu => ?_⟩
    rw [Addr.add_mid, Nat.zero_add]
    rw [← hx] at hu
    have hj : j < (cur.toList.take n).length := (List.getElem?_eq_some_iff.1 hu).1
    rw [List.length_take] at hj
    rw [List.getElem?_take, if_pos (by omega)] at hu
    simp [World.cell?, hh]
    simpa using hu
theorem OB.of {w w' : World} {B : Nat} {v : Value} {l : List UInt8} (h : OB w B v l) (e : w'.heap = w.heap) : OB w' B v l := by
  unfold OB World.ownsRow at *
  rw [e]; exact h
/-- what Bytes answers: a copy -/
def Copied (l : List UInt8) (w : World) (e : Ending) (w' : World) : Prop := ∃ A cap, e = .returned (.slice A l.length cap) ∧ OB w' w.heap.size (.slice A l.length cap) l ∧ w.grownBy w' none

set_option maxRecDepth 100000 in
set_option maxHeartbeats 2000000 in
theorem bytes_any (wb B : Nat) (v : Value) (l : List UInt8) (w : World) (hw : w.cell? ⟨wb, 0, none⟩ = some v) (ho : OB w B v l) (h0 : 0 < l.length) (hn : l.length ≤ 1000000) :
    Calls Tryd.prog 54 #[.pointer (some ⟨wb, 0, none⟩)] w (Copied l w) := by
  obtain ⟨n, hl⟩ : ∃ n, l.length = n := ⟨_, rfl⟩
  obtain ⟨A, cap, rfl, hnc⟩ := ob_shape ho hl
  obtain ⟨g, cur, rfl, hBg, hh, hcs, -, hx, hc⟩ := ob_cells ho hl (by omega)
  obtain ⟨i0, hi, hz0, hz1, hz2⟩ := info_parts infoB
  obtain ⟨v', w', r1, r2, r3⟩ := run_append_arg_grows (P := Tryd.prog) w.drew 25 25 5 i0 (.int .u8 0) 1 1 Tryd.underlying25 hi hz0 hz1 hz2 rfl (by decide) ⟨g, 0, none⟩ 0 0 [] rfl (fun j u hu => by simp at hu) ⟨g, 0, none⟩ n cap (bcs l) (by rw [bcs_len, hl, Nat.mul_one]) (fun j u hu => by rw [World.cell?_drew]; exact hc j u hu) (by omega) (by simp only [maxLen]; omega) (by omega)
  have r1' : (apRow #[25, 25] 25 #[.slice (some ⟨g, 0, none⟩) 0 0, .slice (some ⟨g, 0, none⟩) n cap]).run Tryd.prog w.drew = .ok v' w' := r1
  have o2 : OB w' w.heap.size v' l := by unfold OB; rw [hl]; simpa using r2
  obtain ⟨A2, cap2, rfl, -⟩ := ob_shape o2 hl
  have hF : Copied l w (.returned (.slice A2 n cap2)) w' := ⟨A2, cap2, by rw [hl], by rw [hl]; exact o2, ⟨r3.os, r3.tape, r3.output, r3.size, r3.block⟩⟩
  have HF := Lib.hid hF
  have hc0 : (0 : Int) ≤ cap := by omega
  clear r1 r2 r3 o2 hF hc hx hh hcs ho
  go_enter Tryd.func54, Tryd.ntmps54
  go_wp2_with fail
  refine wp_region_tail_lit 9 (by kernel_rfl) (by kernel_rfl) ?_
  simp only [List.take_succ_cons, List.take_zero, List.drop_succ_cons, List.drop_zero]
  repeat (go_big_quiet_step (fail))
  refine wpQuiet_nil ?_
  go_wp2_with fail
  go_ret
  exact HF.out

end Go.Proofs.YtldicnhpccionaaDoor
