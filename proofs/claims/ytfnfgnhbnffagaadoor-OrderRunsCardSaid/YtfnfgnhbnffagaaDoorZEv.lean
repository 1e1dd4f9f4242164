/-
The package code's writer.
-/
import Derived.Test.YtfnfgnhbnffagaaDoorZAfi
import Derived.Lib.AppendStr
import Derived.Lib.BufferRead
import Derived.ArgAppend
import Derived.Maps.AppendAt
import Derived.Deep.RegionWith
namespace Go.Proofs.YtfnfgnhbnffagaaDoor
open Go.RowKit
set_option linter.unusedVariables false
set_option linter.unusedSimpArgs false
set_option maxRecDepth 100000
theorem infoB : (Tryd.prog.info? 5).map (fun i => (i.zero, i.size, i.bytes)) = some (some (.int .u8 0), 1, 1) := by kernel_rfl
@[go_sem ↓] theorem ap_B (ty : TypeId) (args : Array Value) : Builtin.append_ #[85, 85] ty args = apRow #[85, 85] ty args := rfl
@[go_sem ↓] theorem ap_BS (ty : TypeId) (args : Array Value) : Builtin.append_ #[85, 9] ty args = apRow #[85, 9] ty args := rfl
/-- bytes as cells -/
def bcs (l : List UInt8) : List Value := l.map fun b => Value.int .u8 b.toNat
theorem ones_bytes (l : List UInt8) : ∀ u ∈ bcs l, u.oneCell' = true := by
  intro u hu
  simp only [bcs, List.mem_map] at hu
  obtain ⟨b, _, rfl⟩ := hu
  rfl
theorem bcs_len (l : List UInt8) : (bcs l).length = l.length := by simp [bcs]
theorem bcs_app (l m : List UInt8) : bcs (l ++ m) = bcs l ++ bcs m := by simp [bcs]
/-- bytes of one's own -/
def OB (w : World) (B : Nat) (v : Value) (l : List UInt8) : Prop := w.ownsRow B 5 1 v l.length (bcs l)
theorem ob_append {w : World} {B : Nat} {v : Value} {l m : List UInt8} (ty : TypeId) (h : OB w B v l) (a : Addr) (c : Nat) (hm : ∀ j u, (bcs m)[j]? = some u → w.cell? (a.add j) = some u) (hn : l.length + m.length ≤ 10000000) (hB : B ≤ w.heap.size) :
    ∃ v' w', (apRow #[85, 85] ty #[v, .slice (some a) m.length c]).run Tryd.prog w = .ok v' w' ∧ OB w' B v' (l ++ m) ∧ w.grownBy w' v.ownBlock ∧ (v'.ownBlock = v.ownBlock ∨ v'.ownBlock = some w.heap.size) := by
  obtain ⟨i0, hi, hz0, hz1, hz2⟩ := info_parts infoB
  obtain ⟨v', w', h1, h2, h3, -, h5⟩ := run_append_own_at (P := Tryd.prog) w B 85 ty 5 i0 (.int .u8 0) 1 1 Tryd.underlying85 hi hz0 hz1 hz2 rfl (by decide) v l.length (bcs l) h a m.length c (bcs m) (by rw [bcs_len, Nat.mul_one]) hm (ones_bytes m) (by simp only [maxLen]; omega) (by omega) hB
  exact ⟨v', w', h1, by unfold OB; rw [List.length_append, bcs_app]; exact h2, h3, h5⟩
theorem ob_text {w : World} {B : Nat} {v : Value} {l : List UInt8} (ty : TypeId) (h : OB w B v l) (s : ByteArray) (hn : l.length + s.size ≤ 10000000) (hB : B ≤ w.heap.size) :
    ∃ v' w', (apRow #[85, 9] ty #[v, .string s]).run Tryd.prog w = .ok v' w' ∧ OB w' B v' (l ++ s.data.toList) ∧ w.grownBy w' v.ownBlock := by
  obtain ⟨i0, hi, hz0, hz1, hz2⟩ := info_parts infoB
  obtain ⟨v', w', h1, h2, h3, h4⟩ := Lib.run_append_own_string (P := Tryd.prog) w B 85 9 ty 5 i0 Tryd.underlying85 Tryd.underlying9 hi hz0 hz1 hz2 v l.length (bcs l) h s (by simp only [maxLen]; omega) (by omega) hB
  refine ⟨v', w', h1, ?_, h3⟩
  unfold OB
  rw [List.length_append, bcs_app]
  exact h2
theorem ob_nil (w : World) (B : Nat) : OB w B (.slice none 0 0) [] := World.ownsRow_nil _ _ _ _
theorem ob_shape {w : World} {B : Nat} {v : Value} {l : List UInt8} {n : Nat} (h : OB w B v l) (hn : l.length = n) : ∃ A cap, v = .slice A n cap ∧ n ≤ cap := by
  subst hn
  rcases h.2 with ⟨rfl, h0⟩ | ⟨g', cap, cur, rfl, hB, hh, hc, -⟩
  · exact ⟨none, 0, by rw [h0], by omega⟩
  · exact ⟨_, cap, rfl, hc⟩
/-- a writer: its box, and the bytes so far -/
structure WrS (B wb : Nat) (v : Value) (l : List UInt8) (w : World) : Prop where
  row : w.heap[wb]? = some (.cells #[v] 87 (0, 0))
  own : OB w B v l
  ne : v.ownBlock ≠ some wb
theorem WrS.of_heap {B wb : Nat} {v : Value} {l : List UInt8} {w w' : World} (h : WrS B wb v l w) (e : w'.heap = w.heap) : WrS B wb v l w' := ⟨by rw [e]; exact h.row, by have := h.own; unfold OB World.ownsRow at *; rw [e]; exact this, h.ne⟩
/-- what may have turned from one writer to the other -/
abbrev WrM (B wb : Nat) (w w' : World) : Prop := Mv (fun k => k = wb ∨ B ≤ k) w w'
theorem WrS.of {B wb : Nat} {v v' : Value} {l l' : List UInt8} {w w' : World} (h : WrS B wb v l w) (hb : wb < B) (hB : B ≤ w.heap.size) (o : OB w' B v' l') (m : Mv (fun k => v.ownBlock = some k) w w') :
    w'.cell? ⟨wb, 0, none⟩ = some v ∧ w'.frozen? ⟨wb, 0, none⟩ = false ∧ WrS B wb v' l' (w'.setCell ⟨wb, 0, none⟩ v') ∧ WrM B wb w (w'.setCell ⟨wb, 0, none⟩ v') := by
  have hlt : wb < w.heap.size := (Array.getElem?_eq_some_iff.1 h.row).1
  have hr : w'.heap[wb]? = some (.cells #[v] 87 (0, 0)) := (m.block _ hlt h.ne).trans h.row
  have hne : v'.ownBlock ≠ some wb := fun c => by have := (own_lt o c).1; omega
  have m1 : WrM B wb w w' := m.mono (fun i hi c => .inr (own_lt h.own c).1)
  have hc : w'.cell? ⟨wb, 0, none⟩ = some v := by rw [cell_of_row hr (u := v)]; rfl
  exact ⟨hc, by simp [World.frozen?, hr], ⟨heap_setCell_same _ _ _ _ _ _ hr, own_mv o (Mv.setCell (fp := (· = wb)) _ _ _ rfl) (fun g hg c => hne (c ▸ hg)), hne⟩, m1.trans (Mv.setCell (fp := fun k => k = wb ∨ B ≤ k) _ _ _ (.inl rfl)) (fun _ _ c => c)⟩
/-- bytes of a fresh block are written -/
theorem WrS.push {B wb : Nat} {v : Value} {l m : List UInt8} {w : World} (h : WrS B wb v l w) (hb : wb < B) (hB : B ≤ w.heap.size) (ty : TypeId) (hn : l.length + m.length ≤ 10000000) :
    ∃ v' w', (apRow #[85, 85] ty #[v, .slice (some ⟨w.heap.size, 0, none⟩) m.length m.length]).run Tryd.prog (w.alloc (.cells (bcs m).toArray 5)) = .ok v' w' ∧
      w'.cell? ⟨wb, 0, none⟩ = some v ∧ w'.frozen? ⟨wb, 0, none⟩ = false ∧ WrS B wb v' (l ++ m) (w'.setCell ⟨wb, 0, none⟩ v') ∧ WrM B wb w (w'.setCell ⟨wb, 0, none⟩ v') := by
  obtain ⟨v', w', r, o, g, b⟩ := ob_append (w := w.alloc (.cells (bcs m).toArray 5)) ty (World.ownsRow.alloc h.own _) ⟨w.heap.size, 0, none⟩ m.length (m := m) (fun j u hu => by
    rw [Addr.add_mid, Nat.zero_add, World.cell?_alloc_at _ _ _ _ rfl]; simpa using hu) hn (by simp; omega)
  exact ⟨v', w', r, h.of hb hB o ((Mv.alloc w _).trans (Mv.of_grown (fp := fun k => v.ownBlock = some k) g (fun k hk => hk)) (fun _ _ c => c))⟩
/-- a text's bytes are written -/
theorem WrS.text {B wb : Nat} {v : Value} {l : List UInt8} {w : World} (h : WrS B wb v l w) (hb : wb < B) (hB : B ≤ w.heap.size) (ty : TypeId) (s : ByteArray) (hn : l.length + s.size ≤ 10000000) :
    ∃ v' w', (apRow #[85, 9] ty #[v, .string s]).run Tryd.prog w = .ok v' w' ∧
      w'.cell? ⟨wb, 0, none⟩ = some v ∧ w'.frozen? ⟨wb, 0, none⟩ = false ∧ WrS B wb v' (l ++ s.data.toList) (w'.setCell ⟨wb, 0, none⟩ v') ∧ WrM B wb w (w'.setCell ⟨wb, 0, none⟩ v') := by
  obtain ⟨v', w', r, o, g⟩ := ob_text ty h.own s hn hB
  exact ⟨v', w', r, h.of hb hB o (Mv.of_grown (fp := fun k => v.ownBlock = some k) g (fun k hk => hk))⟩
/-- a number's bytes -/
def u8w (x : Int) (d : Nat) : UInt8 := UInt8.ofNat (IntKind.u64.wrap x / d).toNat
theorem wrap_u64 (x : Int) : IntKind.u64.wrap x = x % 18446744073709551616 := by
  unfold IntKind.wrap
  simp [IntKind.signed, IntKind.bits]
theorem u8w_cell (x : Int) (d : Nat) : (bcs [u8w x d]).toArray = #[Value.int .u8 (IntKind.u64.wrap x / d % 256)] := by
  have h0 : 0 ≤ IntKind.u64.wrap x / d := Int.ediv_nonneg (by rw [wrap_u64]; omega) (by omega)
  unfold bcs u8w
  simp
  omega
def num8 (n : Int) : List UInt8 := [u8w n 72057594037927936, u8w n 281474976710656, u8w n 1099511627776, u8w n 4294967296, u8w n 16777216, u8w n 65536, u8w n 256, u8w n 1]
/-- one byte more, as the walk asks for it -/
theorem WrS.byte {B wb n cp : Nat} {A : Option Addr} {L : List UInt8} {w : World} (h : WrS B wb (.slice A n cp) L w) (hb : wb < B) (hB : B ≤ w.heap.size) (hn : L.length = n) (hl : n ≤ 1100000) (x : Int) (d : Nat) (hd : 0 < d) {V : Int} (hV : V = IntKind.u64.wrap x / d % 256) :
    ∃ A3 cp3 w3, (w.alloc (.cells #[.int .u8 V] 5)).drew.cell? ⟨wb, 0, none⟩ = some (.slice A n cp) ∧ w.drew.cell? ⟨wb, 0, none⟩ = some (.slice A n cp) ∧ w.cell? ⟨wb, 0, none⟩ = some (.slice A n cp) ∧
      (apRow #[85, 85] 85 #[.slice A n cp, .slice (some ⟨w.heap.size, 0, none⟩) 1 1]).run Tryd.prog (w.alloc (.cells #[.int .u8 V] 5)).drew = .ok (.slice A3 (n + 1) cp3) w3 ∧
      w3.cell? ⟨wb, 0, none⟩ = some (.slice A n cp) ∧ w3.frozen? ⟨wb, 0, none⟩ = false ∧ WrS B wb (.slice A3 (n + 1) cp3) (L ++ [u8w x d]) (w3.setCell ⟨wb, 0, none⟩ (.slice A3 (n + 1) cp3)) ∧ WrM B wb w (w3.setCell ⟨wb, 0, none⟩ (.slice A3 (n + 1) cp3)) := by
  have hd1 := h.of_heap (w' := w.drew) rfl
  obtain ⟨v3, w3, r3, c3, f3, h3, m3⟩ := hd1.push (m := [u8w x d]) hb hB 85 (by simp; omega)
  have hlt : wb < w.heap.size := (Array.getElem?_eq_some_iff.1 h.row).1
  have c0 : w.cell? ⟨wb, 0, none⟩ = some (.slice A n cp) := by rw [cell_of_row h.row (u := .slice A n cp)]; rfl
  have hl3 : (L ++ [u8w x d]).length = n + 1 := by simp [hn]
  obtain ⟨A3, cp3, rfl, -⟩ := ob_shape h3.own hl3
  rw [u8w_cell, ← hV] at r3
  refine ⟨A3, cp3, w3, ?_, c0, c0, r3, c3, f3, h3, (Mv.of_below (Below.refl w.heap.size w).drew).trans m3 (fun _ _ c => c)⟩
  rw [cell_alike (w := w) (o := 0)]
  · exact c0
  · exact Below.heap_alloc _ _ _ hlt
def nums8 (l : List Int) : List UInt8 := l.flatMap num8
theorem num8_len (n : Int) : (num8 n).length = 8 := rfl
theorem nums8_len (l : List Int) : (nums8 l).length = 8 * l.length := by
  unfold nums8
  induction l with
  | nil => rfl
  | cons x t ih => rw [List.flatMap_cons, List.length_append, ih, num8_len, List.length_cons]; omega
/-- what the writer's functions leave -/
def Wrote (B wb : Nat) (l : List UInt8) (w : World) (e : Ending) (w' : World) : Prop := e = .returned (.tuple #[]) ∧ ∃ v, WrS B wb v l w' ∧ WrM B wb w w'
set_option maxHeartbeats 4000000 in
theorem num_any (B wb sb so n cap : Nat) (v : Value) (l : List UInt8) (ns : List Int) (w : World) (h : WrS B wb v l w) (hb : wb < B) (hB : B ≤ w.heap.size) (hs : sb < B ∧ sb ≠ wb) (hnl : ns.length = n) (hc : ∀ i, i < n → w.cell? ⟨sb, so + i, none⟩ = some (.int .i64 (ns.getD i 0))) (hn : n ≤ 100) (hl : l.length ≤ 1000000) :
    Calls Tryd.prog 53 #[.pointer (some ⟨wb, 0, none⟩), .slice (some ⟨sb, so, none⟩) n cap] w (Wrote B wb (l ++ nums8 ns) w) := by
  have E := Lib.hid (And.intro h (And.intro hb (And.intro hB (And.intro hs (And.intro hnl (And.intro hc hl))))))
  have hni : (n : Int) ≤ 100 := by omega
  clear h hb hB hs hnl hc hl hn
  go_enter Tryd.func53, Tryd.ntmps53
  go_wp2_with fail
  go_loopw [5, 6, 11] (fun t5 t6 t11 wr => ∃ k : Nat, k ≤ n ∧ t11 = .int .i64 k ∧ ∃ v', WrS B wb v' (l ++ nums8 (ns.take k)) wr ∧ WrM B wb w wr) (fun _ _ t11 _ => n - (intOf t11).toNat)
  case atStart => exact ⟨0, by omega, rfl, v, by simpa [nums8] using E.out.1, Mv.refl _ _⟩
  case round =>
    obtain ⟨k, hk, rfl, v1, h1, m1⟩ := hrel
    have hk0 : (0 : Int) ≤ k := by omega
    by_cases hlt : k < n
    · have hk1 : (k : Int) < n := by omega
      have hsc := (cell_alike (o := so + k) (m1.block sb (Nat.lt_of_lt_of_le E.out.2.2.2.1.1 E.out.2.2.1) (fun c => by have := E.out.2.2.2.1; omega))).trans (E.out.2.2.2.2.2.1 k hlt)
      generalize hx : ns.getD k 0 = x at hsc
      have E1 := Lib.hid (And.intro h1 (And.intro m1 hx))
      clear h1 m1 hx
      go_wp2_with fail
      go_loopw [6] (fun t6 wr2 => ∃ j : Nat, j ≤ 8 ∧ t6 = .int .i64 (56 - 8 * (j : Int)) ∧ ∃ v', WrS B wb v' (l ++ nums8 (ns.take k) ++ (num8 x).take j) wr2 ∧ WrM B wb w wr2) (fun t6 _ => (8 + intOf t6).toNat)
      case atStart => exact ⟨0, by omega, rfl, v1, by simpa using E1.out.1, E1.out.2.1⟩
      case round =>
        obtain ⟨j, hj, rfl, v2, h2, m2⟩ := hrel
        obtain ⟨n2, hlen⟩ : ∃ n2, (l ++ nums8 (ns.take k) ++ (num8 x).take j).length = n2 := ⟨_, rfl⟩
        have hbnd : n2 ≤ 1100000 := by
          have h1 := nums8_len (ns.take k)
          have h2 : ((num8 x).take j).length ≤ 8 := by rw [List.length_take, num8_len]; omega
          have h3 := E.out.2.2.2.2.2.2
          rw [List.length_append, List.length_append, h1, List.length_take] at hlen
          omega
        obtain ⟨A2, cp2, rfl, -⟩ := ob_shape h2.own hlen
        have hj8 : j = 0 ∨ j = 1 ∨ j = 2 ∨ j = 3 ∨ j = 4 ∨ j = 5 ∨ j = 6 ∨ j = 7 ∨ j = 8 := by omega
        rcases hj8 with rfl | rfl | rfl | rfl | rfl | rfl | rfl | rfl | rfl
        · obtain ⟨A3, cp3, w3, c1, c0, c00, r3, c3, f3, h3, m3⟩ := h2.byte E.out.2.1 (Nat.le_trans E.out.2.2.1 m2.size) hlen hbnd x 72057594037927936 (by omega) (V := IntKind.u64.wrap x / 72057594037927936 % 256) (by simp)
          have E2 := Lib.hid (And.intro m2 (And.intro h3 m3))
          clear h2 m2 h3 m3
          go_wp2_with fail
          go_region
          go_wp2_with fail
          go_roundw
          case rel =>
            refine ⟨1, by omega, by go_num, .slice A3 (n2 + 1) cp3, ?_, E2.out.1.trans E2.out.2.2 (fun _ _ c => c)⟩
            have := E2.out.2.1
            simpa [num8] using this
          case measure => simp [intOf]
        · obtain ⟨A3, cp3, w3, c1, c0, c00, r3, c3, f3, h3, m3⟩ := h2.byte E.out.2.1 (Nat.le_trans E.out.2.2.1 m2.size) hlen hbnd x 281474976710656 (by omega) (V := IntKind.u64.wrap x / 281474976710656 % 256) (by simp)
          have E2 := Lib.hid (And.intro m2 (And.intro h3 m3))
          clear h2 m2 h3 m3
          go_wp2_with fail
          go_region
          go_wp2_with fail
          go_roundw
          case rel =>
            refine ⟨2, by omega, by go_num, .slice A3 (n2 + 1) cp3, ?_, E2.out.1.trans E2.out.2.2 (fun _ _ c => c)⟩
            have := E2.out.2.1
            simpa [num8] using this
          case measure => simp [intOf]
        · obtain ⟨A3, cp3, w3, c1, c0, c00, r3, c3, f3, h3, m3⟩ := h2.byte E.out.2.1 (Nat.le_trans E.out.2.2.1 m2.size) hlen hbnd x 1099511627776 (by omega) (V := IntKind.u64.wrap x / 1099511627776 % 256) (by simp)
          have E2 := Lib.hid (And.intro m2 (And.intro h3 m3))
          clear h2 m2 h3 m3
          go_wp2_with fail
          go_region
          go_wp2_with fail
          go_roundw
          case rel =>
            refine ⟨3, by omega, by go_num, .slice A3 (n2 + 1) cp3, ?_, E2.out.1.trans E2.out.2.2 (fun _ _ c => c)⟩
            have := E2.out.2.1
            simpa [num8] using this
          case measure => simp [intOf]
        · obtain ⟨A3, cp3, w3, c1, c0, c00, r3, c3, f3, h3, m3⟩ := h2.byte E.out.2.1 (Nat.le_trans E.out.2.2.1 m2.size) hlen hbnd x 4294967296 (by omega) (V := IntKind.u64.wrap x / 4294967296 % 256) (by simp)
          have E2 := Lib.hid (And.intro m2 (And.intro h3 m3))
          clear h2 m2 h3 m3
          go_wp2_with fail
          go_region
          go_wp2_with fail
          go_roundw
          case rel =>
            refine ⟨4, by omega, by go_num, .slice A3 (n2 + 1) cp3, ?_, E2.out.1.trans E2.out.2.2 (fun _ _ c => c)⟩
            have := E2.out.2.1
            simpa [num8] using this
          case measure => simp [intOf]
        · obtain ⟨A3, cp3, w3, c1, c0, c00, r3, c3, f3, h3, m3⟩ := h2.byte E.out.2.1 (Nat.le_trans E.out.2.2.1 m2.size) hlen hbnd x 16777216 (by omega) (V := IntKind.u64.wrap x / 16777216 % 256) (by simp)
          have E2 := Lib.hid (And.intro m2 (And.intro h3 m3))
          clear h2 m2 h3 m3
          go_wp2_with fail
          go_region
          go_wp2_with fail
          go_roundw
          case rel =>
            refine ⟨5, by omega, by go_num, .slice A3 (n2 + 1) cp3, ?_, E2.out.1.trans E2.out.2.2 (fun _ _ c => c)⟩
            have := E2.out.2.1
            simpa [num8] using this
          case measure => simp [intOf]
        · obtain ⟨A3, cp3, w3, c1, c0, c00, r3, c3, f3, h3, m3⟩ := h2.byte E.out.2.1 (Nat.le_trans E.out.2.2.1 m2.size) hlen hbnd x 65536 (by omega) (V := IntKind.u64.wrap x / 65536 % 256) (by simp)
          have E2 := Lib.hid (And.intro m2 (And.intro h3 m3))
          clear h2 m2 h3 m3
          go_wp2_with fail
          go_region
          go_wp2_with fail
          go_roundw
          case rel =>
            refine ⟨6, by omega, by go_num, .slice A3 (n2 + 1) cp3, ?_, E2.out.1.trans E2.out.2.2 (fun _ _ c => c)⟩
            have := E2.out.2.1
            simpa [num8] using this
          case measure => simp [intOf]
        · obtain ⟨A3, cp3, w3, c1, c0, c00, r3, c3, f3, h3, m3⟩ := h2.byte E.out.2.1 (Nat.le_trans E.out.2.2.1 m2.size) hlen hbnd x 256 (by omega) (V := IntKind.u64.wrap x / 256 % 256) (by simp)
          have E2 := Lib.hid (And.intro m2 (And.intro h3 m3))
          clear h2 m2 h3 m3
          go_wp2_with fail
          go_region
          go_wp2_with fail
          go_roundw
          case rel =>
            refine ⟨7, by omega, by go_num, .slice A3 (n2 + 1) cp3, ?_, E2.out.1.trans E2.out.2.2 (fun _ _ c => c)⟩
            have := E2.out.2.1
            simpa [num8] using this
          case measure => simp [intOf]
        · obtain ⟨A3, cp3, w3, c1, c0, c00, r3, c3, f3, h3, m3⟩ := h2.byte E.out.2.1 (Nat.le_trans E.out.2.2.1 m2.size) hlen hbnd x 1 (by omega) (V := IntKind.u64.wrap x % 256) (by simp)
          have E2 := Lib.hid (And.intro m2 (And.intro h3 m3))
          clear h2 m2 h3 m3
          go_wp2_with fail
          go_region
          go_wp2_with fail
          go_roundw
          case rel =>
            refine ⟨8, by omega, by go_num, .slice A3 (n2 + 1) cp3, ?_, E2.out.1.trans E2.out.2.2 (fun _ _ c => c)⟩
            have := E2.out.2.1
            simpa [num8] using this
          case measure => simp [intOf]
        · have E3 := Lib.hid (And.intro h2 m2)
          clear h2 m2
          go_wp2_with fail
          go_roundw
          case rel =>
            refine ⟨k + 1, by omega, by go_num, .slice A2 n2 cp2, ?_, E3.out.2⟩
            have h := E3.out.1
            have ht : nums8 (ns.take (k + 1)) = nums8 (ns.take k) ++ num8 x := by
              unfold nums8
              rw [List.take_add_one, List.getElem?_eq_getElem (by rw [E.out.2.2.2.2.1]; exact hlt)]
              have hx : ns[k]'(by rw [E.out.2.2.2.2.1]; exact hlt) = x := by
                have := E1.out.2.2
                rwa [List.getD_eq_getElem?_getD, List.getElem?_eq_getElem (by rw [E.out.2.2.2.2.1]; exact hlt)] at this
              simp [hx]
            rw [ht, ← List.append_assoc]
            simpa [num8] using h
          case measure => simp [intOf]; omega
    · have hkn : k = n := by omega
      subst hkn
      have E2 := Lib.hid (And.intro h1 m1)
      clear h1 m1
      go_wp2_with fail
      go_end0
      refine ⟨rfl, v1, ?_, E2.out.2⟩
      have := E2.out.1
      rwa [List.take_of_length_le (by rw [E.out.2.2.2.2.1]; exact Nat.le_refl _)] at this
end Go.Proofs.YtfnfgnhbnffagaaDoor

/-
The writer's texts, and its bytes.
-/
namespace Go.Proofs.YtfnfgnhbnffagaaDoor
open Go.RowKit
set_option linter.unusedVariables false
set_option linter.unusedSimpArgs false
set_option maxRecDepth 100000
@[go_sem ↓] theorem ap_B2 (ty : TypeId) (args : Array Value) : Builtin.append_ #[85, 85] ty args = apRow #[85, 85] ty args := rfl
@[go_sem ↓] theorem ap_BS2 (ty : TypeId) (args : Array Value) : Builtin.append_ #[85, 9] ty args = apRow #[85, 9] ty args := rfl
/-- a text's length, in four bytes -/
def len4 (n : Nat) : List UInt8 := [UInt8.ofNat (n / 16777216), UInt8.ofNat (n / 65536), UInt8.ofNat (n / 256), UInt8.ofNat n]
def cells4 (n : Nat) : Array Value := #[.int .u8 ((n : Int) / 16777216), .int .u8 ((n : Int) / 65536), .int .u8 ((n : Int) / 256 % 256), .int .u8 ((n : Int) % 256)]
theorem u8_nat (k : Nat) : ((UInt8.ofNat k).toNat : Int) = ((k % 256 : Nat) : Int) := by simp
theorem cells4_eq {n : Nat} (h : n ≤ 100000) : (cells4 n).toList = bcs (len4 n) := by
  unfold cells4 len4 bcs
  simp only [List.map_cons, List.map_nil, u8_nat]
  have e1 : ((n / 16777216 % 256 : Nat) : Int) = (n : Int) / 16777216 := by omega
  have e2 : ((n / 65536 % 256 : Nat) : Int) = (n : Int) / 65536 := by omega
  have e3 : ((n / 256 % 256 : Nat) : Int) = (n : Int) / 256 % 256 := by omega
  have e4 : ((n % 256 : Nat) : Int) = (n : Int) % 256 := by omega
  rw [e1, e2, e3, e4]
def textL (s : ByteArray) : List UInt8 := len4 s.size ++ s.data.toList
def textsL (ss : List ByteArray) : List UInt8 := ss.flatMap textL
theorem textL_len (s : ByteArray) : (textL s).length = 4 + s.size := by unfold textL; rw [List.length_append]; rfl
theorem textsL_len {ss : List ByteArray} {M : Nat} (h : ∀ s ∈ ss, s.size ≤ M) : (textsL ss).length ≤ ss.length * (4 + M) := by
  unfold textsL
  induction ss with
  | nil => simp
  | cons x t ih =>
    rw [List.flatMap_cons, List.length_append, textL_len, List.length_cons, Nat.add_mul]
    have := ih (fun s hs => h s (List.mem_cons_of_mem _ hs))
    have := h x (List.mem_cons_self)
    omega
set_option maxHeartbeats 4000000 in
theorem text_any (B wb n cap : Nat) (A : Option Addr) (v : Value) (l : List UInt8) (ss : List ByteArray) (w : World) (h : WrS B wb v l w) (hb : wb < B) (hB : B ≤ w.heap.size) (hT : ∀ w', WrM B wb w w' → TS w' A n ss) (hs : Few ss) (hl : l.length ≤ 1000) :
    Calls Tryd.prog 54 #[.pointer (some ⟨wb, 0, none⟩), .slice A n cap] w (Wrote B wb (l ++ textsL ss) w) := by
  have hT0 := hT w (Mv.refl _ _)
  have hnl := hT0.len
  have hn : n ≤ 400 := by rw [← hnl]; exact hs.1
  have E := Lib.hid (And.intro h (And.intro hb (And.intro hB (And.intro hT (And.intro hs (And.intro hnl hl))))))
  have hni : (n : Int) ≤ 400 := by omega
  clear h hb hB hs hnl hT hl hn hT0
  go_enter Tryd.func54, Tryd.ntmps54
  go_wp2_with fail
  go_loopw [5, 6, 11] (fun t5 t6 t11 wr => ∃ k : Nat, k ≤ n ∧ t11 = .int .i64 k ∧ ∃ v', WrS B wb v' (l ++ textsL (ss.take k)) wr ∧ WrM B wb w wr) (fun _ _ t11 _ => n - (intOf t11).toNat)
  case atStart => exact ⟨0, by omega, rfl, v, by simpa [textsL] using E.out.1, Mv.refl _ _⟩
  case round =>
    obtain ⟨k, hk, rfl, v1, h1, m1⟩ := hrel
    have hk0 : (0 : Int) ≤ k := by omega
    by_cases hlt : k < n
    · have hk1 : (k : Int) < n := by omega
      obtain ⟨sb, so, rfl, hsb, hrow⟩ := (E.out.2.2.2.1 wr m1).mem (by omega)
      have hsc := hrow k hlt
      have hin : ss.getD k ByteArray.empty ∈ ss := by
        rw [List.getD_eq_getElem?_getD, List.getElem?_eq_getElem (by rw [E.out.2.2.2.2.2.1]; exact hlt)]
        exact List.getElem_mem _
      have hx2 := E.out.2.2.2.2.1.2 _ hin
      have htk : textsL (ss.take (k + 1)) = textsL (ss.take k) ++ textL (ss.getD k ByteArray.empty) := by
        unfold textsL
        have hq : ss[k]? = some (ss.getD k ByteArray.empty) := by
          rw [List.getD_eq_getElem?_getD, List.getElem?_eq_getElem (by rw [E.out.2.2.2.2.2.1]; exact hlt)]; rfl
        rw [List.take_add_one, hq, List.flatMap_append]
        simp
      have hlb : (l ++ textsL (ss.take k)).length ≤ 900000 := by
        have h2 := textsL_len (ss := ss.take k) (M := 2048) (fun s hs => E.out.2.2.2.2.1.2 s (List.mem_of_mem_take hs))
        have h3 := E.out.2.2.2.2.1.1
        have h4 := E.out.2.2.2.2.2.2
        rw [List.length_take] at h2
        have h5 : min k ss.length * (4 + 2048) ≤ 400 * 2052 := Nat.mul_le_mul (by omega) (by omega)
        rw [List.length_append]
        omega
      clear hrow
      generalize ss.getD k ByteArray.empty = x at hsc hin hx2 htk
      obtain ⟨n2, hlen⟩ : ∃ n2, (l ++ textsL (ss.take k)).length = n2 := ⟨_, rfl⟩
      obtain ⟨A2, cp2, rfl, -⟩ := ob_shape h1.own hlen
      obtain ⟨v3, w3, r3, c3, f3, h3, m3⟩ := h1.push (m := len4 x.size) E.out.2.1 (Nat.le_trans E.out.2.2.1 m1.size) 85 (by show _ + 4 ≤ _; omega)
      obtain ⟨A3, cp3, rfl, -⟩ := ob_shape (n := n2 + 4) h3.own (by rw [List.length_append, hlen]; rfl)
      obtain ⟨v4, w4, r4, c4, f4, h4, m4⟩ := h3.text E.out.2.1 (Nat.le_trans E.out.2.2.1 (Nat.le_trans m1.size m3.size)) 85 x (by rw [List.length_append, hlen]; show n2 + 4 + _ ≤ _; omega)
      obtain ⟨A4, cp4, rfl, -⟩ := ob_shape (n := n2 + 4 + x.size) h4.own (by rw [List.length_append, List.length_append, hlen]; rfl)
      have c0 : wr.cell? ⟨wb, 0, none⟩ = some (.slice A2 n2 cp2) := by rw [cell_of_row h1.row (u := .slice A2 n2 cp2)]; rfl
      have c0a : (wr.alloc (.cells (bcs (len4 x.size)).toArray 5)).cell? ⟨wb, 0, none⟩ = some (.slice A2 n2 cp2) := (cell_alike (o := 0) (Below.heap_alloc _ _ _ (Array.getElem?_eq_some_iff.1 h1.row).1)).trans c0
      have c30 : (w3.setCell ⟨wb, 0, none⟩ (.slice A3 (n2 + 4) cp3)).cell? ⟨wb, 0, none⟩ = some (.slice A3 (n2 + 4) cp3) := by rw [cell_of_row h3.row (u := .slice A3 (n2 + 4) cp3)]; rfl
      have e4 : (bcs (len4 x.size)).toArray = #[.int .u8 ((x.size : Int) / 16777216), .int .u8 ((x.size : Int) / 65536), .int .u8 ((x.size : Int) / 256 % 256), .int .u8 ((x.size : Int) % 256)] := by
        rw [← cells4_eq (by omega)]; rfl
      rw [e4] at r3 c0a
      rw [show (len4 x.size).length = 4 from rfl] at r3
      have hxi : (x.size : Int) ≤ 100000 := by omega
      have E2 := Lib.hid (And.intro h4 (And.intro ((m1.trans m3 (fun _ _ c => c)).trans m4 (fun _ _ c => c)) htk))
      clear h1 m1 h3 m3 h4 m4 htk hlb hin hx2 e4 hlen
      go_wp2_with fail
      go_roundw
      case rel =>
        refine ⟨k + 1, by omega, by go_num, .slice A4 (n2 + 4 + x.size) cp4, ?_, E2.out.2.1⟩
        rw [E2.out.2.2]
        have := E2.out.1
        unfold textL
        simp only [List.append_assoc] at this ⊢
        exact this
      case measure => simp [intOf]; omega
    · have hkn : k = n := by omega
      subst hkn
      have E2 := Lib.hid (And.intro h1 m1)
      clear h1 m1
      go_wp2_with fail
      go_end0
      refine ⟨rfl, v1, ?_, E2.out.2⟩
      have := E2.out.1
      rwa [List.take_of_length_le (by rw [E.out.2.2.2.2.2.1]; exact Nat.le_refl _)] at this
end Go.Proofs.YtfnfgnhbnffagaaDoor

/-
The writer's bytes; a reply is written down.
-/
namespace Go.Proofs.YtfnfgnhbnffagaaDoor
open Go.RowKit
set_option linter.unusedVariables false
set_option linter.unusedSimpArgs false
set_option maxRecDepth 100000
@[go_sem ↓] theorem ap_B3 (ty : TypeId) (args : Array Value) : Builtin.append_ #[85, 85] ty args = apRow #[85, 85] ty args := rfl
theorem ob_cells {w : World} {B : Nat} {l : List UInt8} {A : Option Addr} {n cap : Nat} (h : OB w B (.slice A n cap) l) (hl : l.length = n) (h0 : 0 < n) : ∃ g cur, A = some ⟨g, 0, none⟩ ∧ B ≤ g ∧ w.heap[g]? = some (.cells cur 5 (0, 0)) ∧ cur.size = cap ∧ n ≤ cap ∧ cur.toList.take n = bcs l ∧ ∀ j u, (bcs l)[j]? = some u → w.cell? ((⟨g, 0, none⟩ : Addr).add j) = some u := by
  rcases h.2 with ⟨hv, hn0⟩ | ⟨g, cap', cur, hv, hB, hh, hc, -, hs, hx⟩
  · omega
  · injection hv with e1 e2 e3
    subst e3
    rw [hl, Nat.mul_one] at hx
    refine ⟨g, cur, e1, hB, hh, by rw [hs, Nat.mul_one], by omega, hx, fun j u hu => ?_⟩
    rw [Addr.add_mid, Nat.zero_add]
    rw [← hx] at hu
    have hj : j < (cur.toList.take n).length := (List.getElem?_eq_some_iff.1 hu).1
    rw [List.length_take] at hj
    rw [List.getElem?_take, if_pos (by omega)] at hu
    simp [World.cell?, hh]
    simpa using hu
theorem ob_conv {w : World} {B : Nat} {l : List UInt8} {A : Option Addr} {n cap : Nat} (h : OB w B (.slice A n cap) l) (hl : l.length = n) (h0 : 0 < n) : (convert 85 9 (.slice A n cap)).run Tryd.prog w = .ok (.string ⟨l.toArray⟩) w := by
  obtain ⟨g, cur, rfl, -, -, -, -, -, hc⟩ := ob_cells h hl h0
  subst hl
  refine run_convert_bytes_back w 85 9 5 _ cap l Tryd.underlying85 Tryd.underlying5 Tryd.underlying9 fun j hj => ?_
  refine hc j _ ?_
  unfold bcs
  rw [List.getElem?_map, List.getElem?_eq_getElem hj]
  rfl
theorem OB.below {w w' : World} {B : Nat} {v : Value} {l : List UInt8} (h : OB w B v l) (hb : Below w.heap.size w w') : OB w' B v l := own_mv (fp := fun _ => False) h (Mv.of_below hb) (fun _ _ c => c)
/-- what Bytes answers: a copy, that may be told as a text -/
def Copied (l : List UInt8) (n : Nat) (w : World) (e : Ending) (w' : World) : Prop := ∃ A cap, e = .returned (.slice A n cap) ∧ (∀ w'', Below w'.heap.size w' w'' → (convert 85 9 (.slice A n cap)).run Tryd.prog w'' = .ok (.string ⟨l.toArray⟩) w'') ∧ Below w.heap.size w w'
set_option maxHeartbeats 2000000 in
theorem bytes_any (wb B n : Nat) (v : Value) (l : List UInt8) (w : World) (h : WrS B wb v l w) (hl : l.length = n) (h0 : 0 < n) (hn : n ≤ 9000000) :
    Calls Tryd.prog 30 #[.pointer (some ⟨wb, 0, none⟩)] w (Copied l n w) := by
  have hw : w.cell? ⟨wb, 0, none⟩ = some v := by rw [cell_of_row h.row (u := v)]; rfl
  have ho := h.own
  obtain ⟨A, cap, rfl, hnc⟩ := ob_shape ho hl
  obtain ⟨g, cur, rfl, hBg, hh, hcs, -, hx, hc⟩ := ob_cells ho hl (by omega)
  obtain ⟨i0, hi, hz0, hz1, hz2⟩ := info_parts infoB
  obtain ⟨v', w', r1, r2, r3⟩ := run_append_arg_grows (P := Tryd.prog) w.drew 85 85 5 i0 (.int .u8 0) 1 1 Tryd.underlying85 hi hz0 hz1 hz2 rfl (by decide) ⟨g, 0, none⟩ 0 0 [] rfl (fun j u hu => by simp at hu) ⟨g, 0, none⟩ n cap (bcs l) (by rw [bcs_len, hl, Nat.mul_one]) (fun j u hu => by rw [World.cell?_drew]; exact hc j u hu) (by omega) (by simp only [maxLen]; omega) (by omega)
  have r1' : (apRow #[85, 85] 85 #[.slice (some ⟨g, 0, none⟩) 0 0, .slice (some ⟨g, 0, none⟩) n cap]).run Tryd.prog w.drew = .ok v' w' := r1
  have o2 : OB w' w.heap.size v' l := by unfold OB; rw [hl]; simpa using r2
  obtain ⟨A2, cap2, rfl, -⟩ := ob_shape o2 hl
  have hF : Copied l n w (.returned (.slice A2 n cap2)) w' := ⟨A2, cap2, rfl, fun w'' hb => ob_conv (o2.below hb) hl h0, ⟨r3.os, r3.tape, r3.output, r3.size, fun k hk => r3.block k hk (fun c => by cases c)⟩⟩
  have HF := Lib.hid hF
  have hc0 : (0 : Int) ≤ cap := by omega
  clear r1 r2 r3 o2 hF hc hx hh hcs ho h
  go_enter Tryd.func30, Tryd.ntmps30
  go_wp2_with fail
  refine wp_region_tail_lit 9 (by kernel_rfl) (by kernel_rfl) ?_
  simp only [List.take_succ_cons, List.take_zero, List.drop_succ_cons, List.drop_zero]
  repeat (go_big_quiet_step (fail))
  refine wpQuiet_nil ?_
  go_wp2_with fail
  go_ret
  exact HF.out
theorem infoI : (Tryd.prog.info? 3).map (fun i => (i.zero, i.size, i.bytes)) = some (some (.int .i64 0), 1, 8) := by kernel_rfl
@[go_sem ↓] theorem bs_I (n : Nat) (ps : Array (Nat × Value)) : Instr.buildSlice 128 n ps = bsRow 128 n ps := rfl
@[go_sem] theorem bs_I4 (a b c d : Int) (w : World) : (bsRow 128 4 #[(0, .int .i64 a), (1, .int .i64 b), (2, .int .i64 c), (3, .int .i64 d)]).run Tryd.prog w = .ok (.slice (some ⟨w.heap.size, 0, none⟩) 4 4) (w.alloc (.cells #[.int .i64 a, .int .i64 b, .int .i64 c, .int .i64 d] 3)) := by
  obtain ⟨i0, hi, hz0, hz1, hz2⟩ := info_parts infoI
  have := bs_row Tryd.underlying128 hi hz0 hz1 rfl (by decide) w [.int .i64 a, .int .i64 b, .int .i64 c, .int .i64 d] (by intro v hv; simp only [List.mem_cons, List.not_mem_nil, or_false] at hv; rcases hv with rfl | rfl | rfl | rfl <;> rfl) (by simp)
  simpa [Value.cells] using this
/-- a reply, written down -/
def replyL (d : Rd) : List UInt8 := nums8 [d.1, d.2.1, d.2.2.1, (d.2.2.2.length : Int)] ++ textsL d.2.2.2
theorem replyL_len {d : Rd} (h : Few d.2.2.2) : 32 ≤ (replyL d).length ∧ (replyL d).length ≤ 900000 := by
  unfold replyL
  rw [List.length_append, nums8_len]
  have h1 := textsL_len h.2
  have h2 := h.1
  have h5 : d.2.2.2.length * (4 + 2048) ≤ 400 * 2052 := Nat.mul_le_mul h2 (by omega)
  simp only [List.length_cons, List.length_nil]
  omega
set_option maxHeartbeats 4000000 in
theorem wreply_any (wb nv cap : Nat) (c n e : Int) (A : Option Addr) (vals : List ByteArray) (w : World) (h : w.heap[wb]? = some (.cells #[.slice none 0 0] 87 (0, 0))) (hT : ∀ w', Mv (· = wb) w w' → TS w' A nv vals) (hs : Few vals) :
    Calls Tryd.prog 29 #[.pointer (some ⟨wb, 0, none⟩), .agg #[.int .i64 c, .int .i64 n, .int .i64 e, .slice A nv cap]] w (Wrote w.heap.size wb (replyL (c, n, e, vals)) w) := by
  have hnl := (hT w (Mv.refl _ _)).len
  have hlt : wb < w.heap.size := (Array.getElem?_eq_some_iff.1 h).1
  have hn : nv ≤ 400 := by rw [← hnl]; exact hs.1
  have hni : (nv : Int) ≤ 400 := by omega
  have hni0 : (0 : Int) ≤ nv := by omega
  have hA := heap_alloc_new w (.cells #[.int .i64 c, .int .i64 n, .int .i64 e, .slice A nv cap] 49)
  have hb1 : Below w.heap.size w (w.alloc (.cells #[.int .i64 c, .int .i64 n, .int .i64 e, .slice A nv cap] 49)) := (Below.refl _ _).alloc (Nat.le_refl _) _
  have k0 : (w.alloc (.cells #[.int .i64 c, .int .i64 n, .int .i64 e, .slice A nv cap] 49)).cell? ⟨w.heap.size, 0, none⟩ = some (.int .i64 c) := by rw [cell_of_row hA (u := .int .i64 c)]; rfl
  have k1 : (w.alloc (.cells #[.int .i64 c, .int .i64 n, .int .i64 e, .slice A nv cap] 49)).cell? ⟨w.heap.size, 1, none⟩ = some (.int .i64 n) := by rw [cell_of_row hA (u := .int .i64 n)]; rfl
  have k2 : (w.alloc (.cells #[.int .i64 c, .int .i64 n, .int .i64 e, .slice A nv cap] 49)).cell? ⟨w.heap.size, 2, none⟩ = some (.int .i64 e) := by rw [cell_of_row hA (u := .int .i64 e)]; rfl
  have k3 : (w.alloc (.cells #[.int .i64 c, .int .i64 n, .int .i64 e, .slice A nv cap] 49)).cell? ⟨w.heap.size, 3, none⟩ = some (.slice A nv cap) := by rw [cell_of_row hA (u := .slice A nv cap)]; rfl
  have E := Lib.hid (And.intro h (And.intro hlt (And.intro hT (And.intro hs (And.intro hnl (And.intro hA hb1))))))
  clear h hlt hT hs hnl hA hb1 hn
  go_enter Tryd.func29, Tryd.ntmps29
  go_wp2_with fail
  obtain ⟨w1, hw1⟩ : ∃ w1, w.alloc (.cells #[.int .i64 c, .int .i64 n, .int .i64 e, .slice A nv cap] 49) = w1 := ⟨_, rfl⟩
  have hz1 : w1.heap.size = w.heap.size + 1 := by rw [← hw1]; simp
  obtain ⟨w2, hw2⟩ : ∃ w2, w1.alloc (.cells #[.int .i64 c, .int .i64 n, .int .i64 e, .int .i64 (nv : Int)] 3) = w2 := ⟨_, rfl⟩
  have hz2 : w2.heap.size = w.heap.size + 2 := by rw [← hw2]; simp [hz1]
  rw [hw1, hw2]
  have m1 : Mv (fun _ => False) w w1 := by rw [← hw1]; exact Mv.alloc _ _
  have m2 : Mv (fun _ => False) w1 w2 := by rw [← hw2]; exact Mv.alloc _ _
  have m12 := m1.trans m2 (fun _ _ c => c)
  have h2 : WrS (w.heap.size + 2) wb (.slice none 0 0) [] w2 := ⟨(m12.block _ E.out.2.1 (fun c => c)).trans E.out.1, ob_nil _ _, by simp [Value.ownBlock]⟩
  have hg2 : w2.heap[w.heap.size + 1]? = some (.cells #[.int .i64 c, .int .i64 n, .int .i64 e, .int .i64 (nv : Int)] 3 (0, 0)) := by rw [← hw2, ← hz1]; exact heap_alloc_new w1 _
  have hg1 : w2.heap[w.heap.size]? = some (.cells #[.int .i64 c, .int .i64 n, .int .i64 e, .slice A nv cap] 49 (0, 0)) := by
    rw [m2.block _ (by omega) (fun c => c), ← hw1]; exact heap_alloc_new w _
  have hltw := E.out.2.1
  refine (num_any (w.heap.size + 2) wb (w.heap.size + 1) 0 4 4 (.slice none 0 0) [] [c, n, e, (nv : Int)] w2 h2 (by omega) (by omega) ⟨by omega, by omega⟩ rfl (fun i hi => ?_) (by omega) (by simp)).mono ?_
  · have hi4 : i = 0 ∨ i = 1 ∨ i = 2 ∨ i = 3 := by omega
    rcases hi4 with rfl | rfl | rfl | rfl
    · exact cell_of_row hg2 rfl
    · exact cell_of_row hg2 rfl
    · exact cell_of_row hg2 rfl
    · exact cell_of_row hg2 rfl
  rintro e3 w3 ⟨rfl, v3, h3, m3⟩
  rw [List.nil_append] at h3
  have hg3 : w3.heap[w.heap.size]? = some (.cells #[.int .i64 c, .int .i64 n, .int .i64 e, .slice A nv cap] 49 (0, 0)) := (m3.block _ (by omega) (fun c => by omega)).trans hg1
  have k33 : w3.cell? ⟨w.heap.size, 3, none⟩ = some (.slice A nv cap) := by rw [cell_of_row hg3 (u := .slice A nv cap)]; rfl
  have hm3 : ∀ w', WrM (w.heap.size + 2) wb w3 w' → Mv (· = wb) w w' := fun w' m => by
    have h := (m12.mono (fq := fun k => k = wb ∨ w.heap.size + 2 ≤ k) (fun i hi c => c.elim)).trans (m3.trans m (fun _ _ c => c)) (fun _ _ c => c)
    exact h.mono (fun i hi c => by rcases c with c | c; exact c; omega)
  have E3 := Lib.hid (And.intro h3 (And.intro m3 (And.intro hm3 (And.intro m12 (And.intro hz2 (hz2 ▸ m3.size))))))
  clear h3 m3 hm3 m12 m1 m2 h2 hg2 hg1 hg3 hw1 hw2 hz1 hz2 k0 k1 k2 k3 hltw
  go_wp2_with fail
  refine (text_any (w.heap.size + 2) wb nv cap A v3 _ vals w3 E3.out.1 (by have := E.out.2.1; omega) E3.out.2.2.2.2.2 (fun w' m => E.out.2.2.1 _ (E3.out.2.2.1 w' m)) E.out.2.2.2.1 (by rw [nums8_len]; simp)).mono ?_
  rintro e4 w4 ⟨rfl, v4, h4, m4⟩
  have E4 := Lib.hid (And.intro h4 m4)
  clear h4 m4 k33
  go_wp2_with fail
  go_end0
  refine ⟨rfl, v4, ?_, ?_⟩
  · have h := E4.out.1
    have hv := E.out.2.2.2.2.1
    refine ⟨h.row, ?_, h.ne⟩
    have ho := own_mono (B := w.heap.size) h.own (by omega)
    unfold replyL
    rw [hv]
    exact ho
  · have h := (E3.out.2.2.2.1.mono (fq := fun k => k = wb ∨ w.heap.size ≤ k) (fun i hi c => c.elim)).trans ((E3.out.2.1.trans E4.out.2 (fun _ _ c => c)).mono (fq := fun k => k = wb ∨ w.heap.size ≤ k) (fun i hi c => c.imp id (by omega))) (fun _ _ c => c)
    exact h
end Go.Proofs.YtfnfgnhbnffagaaDoor

/-
Are two replies the same?
-/
namespace Go.Proofs.YtfnfgnhbnffagaaDoor
open Go.RowKit
set_option linter.unusedVariables false
set_option linter.unusedSimpArgs false
set_option maxRecDepth 100000
/-- a reply that can be read -/
structure RpS (w : World) (x : Rp) : Prop where
  t : TS w x.A x.vals.length x.vals
  s : SlOk x.A x.vals.length
  f : Few x.vals
theorem RpS.below {w w' : World} {x : Rp} (h : RpS w x) (hb : Below w.heap.size w w') : RpS w' x := ⟨h.t.below hb, h.s, h.f⟩
theorem TS.mv {fp : Nat → Prop} {w w' : World} {A : Option Addr} {n : Nat} {ss : List ByteArray} (h : TS w A n ss) (m : Mv fp w w') (hf : ∀ b o sp, A = some ⟨b, o, sp⟩ → ¬ fp b) : TS w' A n ss := by
  refine ⟨h.len, h.small, fun hn => ?_⟩
  obtain ⟨b, off, rfl, hlt, hr⟩ := h.mem hn
  exact ⟨b, off, rfl, Nat.lt_of_lt_of_le hlt m.size, fun i hi => by rw [cell_alike (m.block b hlt (hf b off none rfl))]; exact hr i hi⟩
def sameR (a b : Rd) : Bool := replyL a == replyL b
theorem sameR_self (a : Rd) : sameR a a = true := by unfold sameR; simp
set_option maxHeartbeats 4000000 in
theorem same_any (x y : Rp) (w : World) (hx : RpS w x) (hy : RpS w y) : Calls Tryd.prog 19 #[.agg x.arr, .agg y.arr] w fun e w' => e = .returned (.bool (sameR x.d y.d)) ∧ Below w.heap.size w w' := by
  obtain ⟨xc, xn, xe, xA, xq, xv⟩ := x
  obtain ⟨yc, yn, ye, yA, yq, yv⟩ := y
  have HX := Lib.hid hx
  have HY := Lib.hid hy
  obtain ⟨na, hna⟩ : ∃ n, xv.length = n := ⟨_, rfl⟩
  obtain ⟨nb, hnb⟩ : ∃ n, yv.length = n := ⟨_, rfl⟩
  have HN := Lib.hid (And.intro hna hnb)
  have ea : Rp.arr ⟨xc, xn, xe, xA, xq, xv⟩ = #[.int .i64 xc, .int .i64 xn, .int .i64 xe, .slice xA na xq] := by rw [← hna]; rfl
  have eb : Rp.arr ⟨yc, yn, ye, yA, yq, yv⟩ = #[.int .i64 yc, .int .i64 yn, .int .i64 ye, .slice yA nb yq] := by rw [← hnb]; rfl
  rw [ea, eb]
  clear hx hy hna hnb ea eb
  have hb4 : Below w.heap.size w ((((w.alloc (.cells #[.int .i64 xc, .int .i64 xn, .int .i64 xe, .slice xA na xq] 49)).alloc (.cells #[.int .i64 yc, .int .i64 yn, .int .i64 ye, .slice yA nb yq] 49)).alloc (.cells #[.slice none 0 0] 87)).alloc (.cells #[.slice none 0 0] 87)) :=
    ((((Below.refl _ _).alloc (Nat.le_refl _) _).alloc (by simp) _).alloc (by simp; omega) _).alloc (by simp; omega) _
  obtain ⟨w4, hw4⟩ : ∃ w4, ((((w.alloc (.cells #[.int .i64 xc, .int .i64 xn, .int .i64 xe, .slice xA na xq] 49)).alloc (.cells #[.int .i64 yc, .int .i64 yn, .int .i64 ye, .slice yA nb yq] 49)).alloc (.cells #[.slice none 0 0] 87)).alloc (.cells #[.slice none 0 0] 87)) = w4 := ⟨_, rfl⟩
  have hz4 : w4.heap.size = w.heap.size + 4 := by rw [← hw4]; simp
  have p : ∀ (w : World) (o : Obj) (k : Nat) (x : Obj), w.heap[k]? = some x → (w.alloc o).heap[k]? = some x := fun w o k x hx => (Below.heap_alloc w o k (Array.getElem?_eq_some_iff.1 hx).1).trans hx
  have g0 : w4.heap[w.heap.size]? = some (.cells #[.int .i64 xc, .int .i64 xn, .int .i64 xe, .slice xA na xq] 49 (0, 0)) := by rw [← hw4]; exact p _ _ _ _ (p _ _ _ _ (p _ _ _ _ (heap_alloc_new w _)))
  have g1 : w4.heap[w.heap.size + 1]? = some (.cells #[.int .i64 yc, .int .i64 yn, .int .i64 ye, .slice yA nb yq] 49 (0, 0)) := by rw [← hw4]; exact p _ _ _ _ (p _ _ _ _ (by have := heap_alloc_new (w.alloc (.cells #[.int .i64 xc, .int .i64 xn, .int .i64 xe, .slice xA na xq] 49)) (.cells #[.int .i64 yc, .int .i64 yn, .int .i64 ye, .slice yA nb yq] 49); simpa using this))
  have g2 : w4.heap[w.heap.size + 2]? = some (.cells #[.slice none 0 0] 87 (0, 0)) := by rw [← hw4]; exact p _ _ _ _ (by have := heap_alloc_new ((w.alloc (.cells #[.int .i64 xc, .int .i64 xn, .int .i64 xe, .slice xA na xq] 49)).alloc (.cells #[.int .i64 yc, .int .i64 yn, .int .i64 ye, .slice yA nb yq] 49)) (.cells #[.slice none 0 0] 87); simpa using this)
  have g3 : w4.heap[w.heap.size + 3]? = some (.cells #[.slice none 0 0] 87 (0, 0)) := by rw [← hw4]; have := heap_alloc_new (((w.alloc (.cells #[.int .i64 xc, .int .i64 xn, .int .i64 xe, .slice xA na xq] 49)).alloc (.cells #[.int .i64 yc, .int .i64 yn, .int .i64 ye, .slice yA nb yq] 49)).alloc (.cells #[.slice none 0 0] 87)) (.cells #[.slice none 0 0] 87); simpa using this
  rw [hw4] at hb4
  have r0 : rowAt w4 w.heap.size 0 4 = some #[.int .i64 xc, .int .i64 xn, .int .i64 xe, .slice xA na xq] := by unfold rowAt; rw [g0]; exact cut_all _ _ rfl
  have E := Lib.hid (And.intro hb4 (And.intro hz4 (And.intro g1 (And.intro g2 g3))))
  clear hb4 hz4 g0 g1 g2 g3 p
  go_enter Tryd.func19, Tryd.ntmps19
  go_wp2_with fail
  clear r0 hw4
  have hTx : ∀ w', Below w.heap.size w w' → TS w' xA na xv := fun w' hb => by
    have := (HX.out.below hb).t
    rwa [show (Rp.mk xc xn xe xA xq xv).vals.length = na from HN.out.1] at this
  have hTy : ∀ w', Below w.heap.size w w' → TS w' yA nb yv := fun w' hb => by
    have := (HY.out.below hb).t
    rwa [show (Rp.mk yc yn ye yA yq yv).vals.length = nb from HN.out.2] at this
  have HT := Lib.hid (And.intro hTx hTy)
  clear hTx hTy
  refine (wreply_any (w.heap.size + 2) na xq xc xn xe xA xv w4 E.out.2.2.2.1 (fun w' m => HT.out.1 w' (E.out.1.trans (m.below (by have := E.out.2.1; omega) (fun i hi => by omega)))) HX.out.f).mono ?_
  rintro e5 w5 ⟨rfl, v5, h5, m5⟩
  have hz4 := E.out.2.1
  have b5 := E.out.1.trans (m5.below (B := w.heap.size) (by omega) (fun i hi => by omega))
  have g31 : w5.heap[w.heap.size + 1]? = some (.cells #[.int .i64 yc, .int .i64 yn, .int .i64 ye, .slice yA nb yq] 49 (0, 0)) := (m5.block _ (by omega) (fun c => by omega)).trans E.out.2.2.1
  have g33 : w5.heap[w.heap.size + 3]? = some (.cells #[.slice none 0 0] 87 (0, 0)) := (m5.block _ (by omega) (fun c => by omega)).trans E.out.2.2.2.2
  have r1 : rowAt w5 (w.heap.size + 1) 0 4 = some #[.int .i64 yc, .int .i64 yn, .int .i64 ye, .slice yA nb yq] := by unfold rowAt; rw [g31]; exact cut_all _ _ rfl
  have E5 := Lib.hid (And.intro h5 (And.intro b5 (And.intro g33 (hz4 ▸ m5.size))))
  clear h5 m5 b5 g31 g33 hz4
  go_wp2_with fail
  clear r1
  refine (wreply_any (w.heap.size + 3) nb yq yc yn ye yA yv w5 E5.out.2.2.1 (fun w' m => HT.out.2 w' (E5.out.2.1.trans (m.below (by have := E5.out.2.1.size; omega) (fun i hi => by omega)))) HY.out.f).mono ?_
  rintro e6 w6 ⟨rfl, v6, h6, m6⟩
  have hz5 := E5.out.2.2.2
  have b6 := E5.out.2.1.trans (m6.below (B := w.heap.size) E5.out.2.1.size (fun i hi => by omega))
  have h56 : WrS w.heap.size (w.heap.size + 2) v5 (replyL (xc, xn, xe, xv)) w6 := by
    have h := E5.out.1
    have hl : w.heap.size + 2 < w5.heap.size := by omega
    refine ⟨(m6.block _ hl (fun c => by omega)).trans h.row, own_mv (own_mono h.own (by have := E.out.2.1; omega)) m6 (fun g hg c => by have h1 := own_lt h.own hg; have := E.out.2.1; omega), h.ne⟩
  have h66 : WrS w.heap.size (w.heap.size + 3) v6 (replyL (yc, yn, ye, yv)) w6 := ⟨h6.row, own_mono h6.own (by omega), h6.ne⟩
  obtain ⟨lx, hlx⟩ : ∃ l, replyL (xc, xn, xe, xv) = l := ⟨_, rfl⟩
  obtain ⟨ly, hly⟩ : ∃ l, replyL (yc, yn, ye, yv) = l := ⟨_, rfl⟩
  have nx := replyL_len (d := (xc, xn, xe, xv)) HX.out.f
  have ny := replyL_len (d := (yc, yn, ye, yv)) HY.out.f
  rw [hlx] at h56 nx
  rw [hly] at h66 ny
  have hb1 : ∀ w', Below w6.heap.size w6 w' → Calls Tryd.prog 30 #[.pointer (some ⟨w.heap.size + 1 + 1, 0, none⟩)] w' (fun e w9 => ∃ A c, e = .returned (.slice A lx.length c) ∧ (∀ w'', Below w9.heap.size w9 w'' → (convert 85 9 (.slice A lx.length c)).run Tryd.prog w'' = .ok (.string ⟨lx.toArray⟩) w'') ∧ Below w'.heap.size w' w9 ∧ Below w6.heap.size w6 w9) := fun w' hb => by
    refine (bytes_any (w.heap.size + 2) w.heap.size lx.length v5 lx w' ⟨(hb.block _ (Array.getElem?_eq_some_iff.1 h56.row).1).trans h56.row, h56.own.below hb, h56.ne⟩ rfl (by omega) (by omega)).mono ?_
    rintro e w9 ⟨A, c, rfl, h1, h2⟩
    exact ⟨A, c, rfl, h1, h2, hb.trans (h2.mono hb.size)⟩
  have hb2 : ∀ w', Below w6.heap.size w6 w' → Calls Tryd.prog 30 #[.pointer (some ⟨w.heap.size + 1 + 1 + 1, 0, none⟩)] w' (fun e w9 => ∃ A c, e = .returned (.slice A ly.length c) ∧ (∀ w'', Below w9.heap.size w9 w'' → (convert 85 9 (.slice A ly.length c)).run Tryd.prog w'' = .ok (.string ⟨ly.toArray⟩) w'') ∧ Below w'.heap.size w' w9 ∧ Below w6.heap.size w6 w9) := fun w' hb => by
    refine (bytes_any (w.heap.size + 3) w.heap.size ly.length v6 ly w' ⟨(hb.block _ (Array.getElem?_eq_some_iff.1 h66.row).1).trans h66.row, h66.own.below hb, h66.ne⟩ rfl (by omega) (by omega)).mono ?_
    rintro e w9 ⟨A, c, rfl, h1, h2⟩
    exact ⟨A, c, rfl, h1, h2, hb.trans (h2.mono hb.size)⟩
  have hsame : sameR (Rp.mk xc xn xe xA xq xv).d (Rp.mk yc yn ye yA yq yv).d = (lx == ly) := by
    unfold sameR
    rw [show replyL (Rp.mk xc xn xe xA xq xv).d = lx from hlx, show replyL (Rp.mk yc yn ye yA yq yv).d = ly from hly]
  have E6 := Lib.hid (And.intro b6 hsame)
  have hbb : ∀ w' (b k : Nat) (l : List UInt8), Below w6.heap.size w6 w' → ((b = w.heap.size + 1 + 1 ∧ k = lx.length ∧ l = lx) ∨ (b = w.heap.size + 1 + 1 + 1 ∧ k = ly.length ∧ l = ly)) → Calls Tryd.prog 30 #[.pointer (some ⟨b, 0, none⟩)] w' (fun e w9 => ∃ A c, e = .returned (.slice A k c) ∧ (∀ w'', Below w9.heap.size w9 w'' → (convert 85 9 (.slice A k c)).run Tryd.prog w'' = .ok (.string ⟨l.toArray⟩) w'') ∧ Below w'.heap.size w' w9 ∧ Below w6.heap.size w6 w9) := fun w' b k l hb h => by
    rcases h with ⟨rfl, rfl, rfl⟩ | ⟨rfl, rfl, rfl⟩
    · exact hb1 w' hb
    · exact hb2 w' hb
  clear hb1 hb2
  generalize lx.length = kx at *
  generalize ly.length = ky at *
  clear h56 h66 h6 m6 hz5 b6 hlx hly nx ny hsame
  have hbr : Below w6.heap.size w6 w6.drew := (Below.refl _ _).drew
  go_wp2_with fail
  go_region_with (first | (go_at_call 30; refine (hbb _ _ _ _ (by assumption) (by first | exact .inl ⟨rfl, rfl, rfl⟩ | exact .inr ⟨rfl, rfl, rfl⟩)).mono ?_; rintro e w7 ⟨A7, c7, rfl, hc7, hb7, hb71⟩; have hr7 := Below.refl w7.heap.size w7))
  all_goals
    go_wp2_with fail
    go_ret
    exact ⟨by rw [E6.out.2]; rfl, E6.out.1.trans (hb71.mono E6.out.1.size)⟩
end Go.Proofs.YtfnfgnhbnffagaaDoor

/-
Events, and rows of requests, in memory.
-/
namespace Go.Proofs.YtfnfgnhbnffagaaDoor
open Go.RowKit
set_option linter.unusedVariables false
set_option linter.unusedSimpArgs false
set_option maxRecDepth 100000
/-- an event -/
structure Ev where
  q : Rq
  r : Rp
  called : Int
  done : Int
instance : Inhabited Ev := ⟨⟨default, default, 0, 0⟩⟩
def Ev.tail (m : Ev) : List Value := [.int .i64 m.r.client, .int .i64 m.r.num, .int .i64 m.r.code, .slice m.r.A m.r.vals.length m.r.cap, .int .i64 m.called, .int .i64 m.done]
def Ev.cells (m : Ev) : List Value := m.q.cells ++ m.tail
def Ev.arr (m : Ev) : Array Value := m.cells.toArray
structure Ev.ok (m : Ev) : Prop where
  q : m.q.ok
  r : m.r.ok
  c : (Lit.int .i64 m.called).wf = true
  d : (Lit.int .i64 m.done).wf = true
theorem Ev.len {m : Ev} (h : m.ok) : m.cells.length = 48 := by simp [Ev.cells, Ev.tail, Rq.len h.q]
theorem Ev.size {m : Ev} (h : m.ok) : m.arr.size = 48 := by simp [Ev.arr, Ev.len h]
theorem Ev.sz {m : Ev} (h : m.ok) : SizeIs m.arr 48 := Ev.size h
theorem Ev.cut {m : Ev} (h : m.ok) : Go.Proofs.YtfnfgnhbnffagaaDoor.cut m.arr 0 48 = some m.arr := cut_all _ _ (Ev.size h)
theorem ev_ones (m : Ev) : ∀ u ∈ m.cells, u.oneCell' = true := by
  intro v hv
  unfold Ev.cells at hv
  rcases List.mem_append.1 hv with hv | hv
  · exact rq_ones _ v hv
  · simp only [Ev.tail, List.mem_cons, List.not_mem_nil, or_false] at hv
    rcases hv with rfl | rfl | rfl | rfl | rfl | rfl <;> rfl
theorem Ev.ones (m : Ev) : oneCells m.arr = true := ones_of (ev_ones m)
theorem Ev.cutQ {m : Ev} (h : m.ok) : Go.Proofs.YtfnfgnhbnffagaaDoor.cut m.arr 0 42 = some m.q.arr := by
  unfold Go.Proofs.YtfnfgnhbnffagaaDoor.cut
  rw [Ev.size h, if_pos (by decide)]
  congr 1
  apply Array.ext'
  rw [Array.toList_extract, List.extract_eq_take_drop]
  show ((m.q.cells ++ m.tail).drop 0).take 42 = m.q.cells
  rw [List.drop_zero, ← Rq.len h.q, List.take_left]
theorem Ev.cutR {m : Ev} (h : m.ok) : Go.Proofs.YtfnfgnhbnffagaaDoor.cut m.arr 42 4 = some m.r.arr := by
  unfold Go.Proofs.YtfnfgnhbnffagaaDoor.cut
  rw [Ev.size h, if_pos (by decide)]
  congr 1
  apply Array.ext'
  rw [Array.toList_extract, List.extract_eq_take_drop]
  show ((m.q.cells ++ m.tail).drop 42).take (46 - 42) = m.r.cells
  have e : ((m.q.cells ++ m.tail).drop 42) = m.tail := by rw [← Rq.len h.q, List.drop_left]
  rw [e]
  rfl
theorem Ev.atq {m : Ev} (h : m.ok) (i : Nat) (hi : i < 42) : m.arr[i]? = m.q.arr[i]? := by
  show (m.q.cells ++ m.tail).toArray[i]? = m.q.cells.toArray[i]?
  rw [List.getElem?_toArray, List.getElem?_toArray, List.getElem?_append_left (by rw [Rq.len h.q]; exact hi)]
theorem Ev.att {m : Ev} (h : m.ok) (i : Nat) : m.arr[42 + i]? = m.tail[i]? := by
  show (m.q.cells ++ m.tail).toArray[42 + i]? = _
  rw [List.getElem?_toArray, List.getElem?_append_right (by rw [Rq.len h.q]; omega), Rq.len h.q, Nat.add_sub_cancel_left]
theorem Ev.at0 {m : Ev} (h : m.ok) : m.arr[0]? = some (.int .i64 m.q.client) := by rw [Ev.atq h 0 (by omega)]; exact m.q.at0
theorem Ev.at1 {m : Ev} (h : m.ok) : m.arr[1]? = some (.int .i64 m.q.num) := by rw [Ev.atq h 1 (by omega)]; exact m.q.at1
theorem Ev.at46 {m : Ev} (h : m.ok) : m.arr[46]? = some (.int .i64 m.called) := Ev.att h 4
theorem Ev.at47 {m : Ev} (h : m.ok) : m.arr[47]? = some (.int .i64 m.done) := Ev.att h 5
def Ev.zero : Ev := ⟨default, Rp.zero, 0, 0⟩
theorem Rq.zero_ok : (default : Rq).ok := ⟨by decide, by decide, ⟨by decide, by decide, by decide, by decide, Chg.zero_ok⟩⟩
theorem Ev.zero_ok : Ev.zero.ok := ⟨Rq.zero_ok, Rp.zero_ok, by decide, by decide⟩
@[go_sem ↓] theorem lv_Event (a : Addr) : loadVar 51 a = ldVar 51 a := rfl
@[go_sem ↓] theorem sv_Event (a : Addr) (v : Value) : storeVar 51 a v = stVar 51 a v := rfl
@[go_sem] theorem run_lv_Event (w : World) (b o : Nat) : (ldVar 51 ⟨b, o, none⟩).run Tryd.prog w = match rowAt w b o 48 with | some cs => .ok (.agg cs) w | none => (ldRaw 51 ⟨b, o, none⟩).run Tryd.prog w :=
  run_ldVar w 51 b o 48 _ Tryd.underlying51 rfl (by kernel_rfl)
@[go_sem] theorem run_sv_Event (w : World) (b : Nat) (cs : Array Value) : (stVar 51 ⟨b, 0, none⟩ (.agg cs)).run Tryd.prog w = match putRow w b 48 cs with | some w' => .ok () w' | none => (stRaw 51 ⟨b, 0, none⟩ (.agg cs)).run Tryd.prog w :=
  run_stVar w 51 b 48 cs (by kernel_rfl)
@[go_sem] theorem Ev.zero_sz : SizeIs Ev.zero.arr 48 := by unfold SizeIs; kernel_rfl
@[go_sem] theorem Ev.zero_ones : oneCells Ev.zero.arr = true := Ev.ones _
@[go_sem ↓] theorem zv_Event (w : World) : (zeroValue 51).run Tryd.prog w = .ok (.agg Ev.zero.arr) w := by
  have h : (Tryd.prog.info? 51).map (fun i => (i.zero, i.size)) = some (some (.agg Ev.zero.arr), 48) := by kernel_rfl
  exact (zero_of_info h).1 w
structure ES (w : World) (A : Option Addr) (n : Nat) (ms : List Ev) : Prop where
  len : ms.length = n
  small : n ≤ 140737488355328
  ok : ∀ m ∈ ms, m.ok
  mem : 0 < n → ∃ b off, A = some ⟨b, off, none⟩ ∧ b < w.heap.size ∧ ∀ i, i < n → rowAt w b (off + i * 48) 48 = some (ms.getD i default).arr
theorem ES.okAt {w : World} {A : Option Addr} {n : Nat} {ms : List Ev} (h : ES w A n ms) {i : Nat} (hi : i < n) : (ms.getD i default).ok := by
  have hl := h.len
  rw [List.getD_eq_getElem?_getD, List.getElem?_eq_getElem (by omega)]
  exact h.ok _ (List.getElem_mem _)
theorem ES.below {w w' : World} {A : Option Addr} {n : Nat} {ms : List Ev} (h : ES w A n ms) (hb : Below w.heap.size w w') : ES w' A n ms := by
  refine ⟨h.len, h.small, h.ok, fun hn => ?_⟩
  obtain ⟨b, off, rfl, hlt, hr⟩ := h.mem hn
  exact ⟨b, off, rfl, Nat.lt_of_lt_of_le hlt hb.size, fun i hi => by rw [rowAt_below hb hlt]; exact hr i hi⟩
/-- a row of requests -/
structure QS (w : World) (A : Option Addr) (n : Nat) (ms : List Rq) : Prop where
  len : ms.length = n
  small : n ≤ 140737488355328
  ok : ∀ m ∈ ms, m.ok
  mem : 0 < n → ∃ b off, A = some ⟨b, off, none⟩ ∧ b < w.heap.size ∧ ∀ i, i < n → rowAt w b (off + i * 42) 42 = some (ms.getD i default).arr
theorem QS.okAt {w : World} {A : Option Addr} {n : Nat} {ms : List Rq} (h : QS w A n ms) {i : Nat} (hi : i < n) : (ms.getD i default).ok := by
  have hl := h.len
  rw [List.getD_eq_getElem?_getD, List.getElem?_eq_getElem (by omega)]
  exact h.ok _ (List.getElem_mem _)
theorem QS.below {w w' : World} {A : Option Addr} {n : Nat} {ms : List Rq} (h : QS w A n ms) (hb : Below w.heap.size w w') : QS w' A n ms := by
  refine ⟨h.len, h.small, h.ok, fun hn => ?_⟩
  obtain ⟨b, off, rfl, hlt, hr⟩ := h.mem hn
  exact ⟨b, off, rfl, Nat.lt_of_lt_of_le hlt hb.size, fun i hi => by rw [rowAt_below hb hlt]; exact hr i hi⟩
end Go.Proofs.YtfnfgnhbnffagaaDoor
