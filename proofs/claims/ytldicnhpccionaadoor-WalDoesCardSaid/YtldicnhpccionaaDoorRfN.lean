/-
The reference's digest: a block is taken in.
-/
import Derived.Test.YtldicnhpccionaaDoorRfW
namespace Go.Proofs.YtldicnhpccionaaDoor
open Go.RowKit
set_option linter.unusedVariables false
set_option linter.unusedSimpArgs false
def bldW8 (ps : Array (Nat × Value)) : Sem Value := Instr.build 100 ps
@[go_sem ↓] theorem bld_w8 (ps : Array (Nat × Value)) : Instr.build 100 ps = bldW8 ps := rfl
theorem run_bld8 (w : World) (a b c d e f g h : Int) : (bldW8 #[(0, .int .u32 a), (1, .int .u32 b), (2, .int .u32 c), (3, .int .u32 d), (4, .int .u32 e), (5, .int .u32 f), (6, .int .u32 g), (7, .int .u32 h)]).run Tryd.prog w =
    .ok (.agg #[.int .u32 a, .int .u32 b, .int .u32 c, .int .u32 d, .int .u32 e, .int .u32 f, .int .u32 g, .int .u32 h]) w := by kernel_rfl
attribute [go_sem] run_bld8
@[go_sem ↓] theorem lv_w8 (a : Addr) : loadVar 100 a = ldVar 100 a := rfl
@[go_sem] theorem run_lv_w8 (w : World) (b o : Nat) : (ldVar 100 ⟨b, o, none⟩).run Tryd.prog w = match rowAt w b o 8 with | some cs => .ok (.agg cs) w | none => (ldRaw 100 ⟨b, o, none⟩).run Tryd.prog w :=
  run_ldVar w 100 b o 8 _ Tryd.underlying100 rfl (by kernel_rfl)
@[go_sem ↓] theorem sv_w8 (a : Addr) (v : Value) : storeVar 100 a v = stVar 100 a v := rfl
@[go_sem] theorem run_sv_w8 (w : World) (b : Nat) (cs : Array Value) : (stVar 100 ⟨b, 0, none⟩ (.agg cs)).run Tryd.prog w = match putRow w b 8 cs with | some w' => .ok () w' | none => (stRaw 100 ⟨b, 0, none⟩ (.agg cs)).run Tryd.prog w :=
  run_stVar w 100 b 8 cs (by kernel_rfl)
/-- the block's arrays -/
structure NxR (G : Nat) (h f : Nat → Int) (w wr : World) : Prop where
  st : Arr wr G 100 .u32 8 h
  tb : Arr wr (G + 1) 101 .u32 64 tabK
  rs : Arr wr (G + 2) 100 .u32 8 (fun _ => 0)
  ws : Arr wr (G + 3) 101 .u32 64 f
  bel : Below w.heap.size w wr
  ge : G = w.heap.size
theorem NxR.drewN {G : Nat} {h f : Nat → Int} {w wr : World} (x : NxR G h f w wr) (n : Nat) : NxR G h f w (wr.drewN n) := ⟨x.st, x.tb, x.rs, x.ws, below_drewN x.bel n, x.ge⟩
theorem NxR.set {G : Nat} {h f : Nat → Int} {w wr : World} (x : NxR G h f w wr) (i : Nat) (v : Int) : NxR G h (upd f i v) w (wr.setCell ⟨G + 3, i, none⟩ (.int .u32 v)) := by
  have hg := x.ge
  refine ⟨x.st.of (heap_setCell_other _ _ _ _ (by simp)), x.tb.of (heap_setCell_other _ _ _ _ (by simp)), x.rs.of (heap_setCell_other _ _ _ _ (by simp)), x.ws.set i v, x.bel.setCell (by show w.heap.size ≤ G + 3; omega) _, hg⟩
theorem NxR.ext {G : Nat} {h f f' : Nat → Int} {w wr : World} (x : NxR G h f w wr) (e : ∀ i, i < 64 → f i = f' i) : NxR G h f' w wr := ⟨x.st, x.tb, x.rs, x.ws.ext e, x.bel, x.ge⟩
theorem nx_start (w : World) (h : Nat → Int) {c8 c64 : Array Value} (e8 : c8 = arrK .u32 8 fun _ => 0) (e64 : c64 = arrK .u32 64 fun _ => 0) :
    NxR w.heap.size h (fun _ => 0) w ((((w.alloc (.cells (arrK .u32 8 h) 100)).alloc (.cells (arrK .u32 64 tabK) 101)).alloc (.cells c8 100)).alloc (.cells c64 101)) := by
  subst e8; subst e64
  have s1 : (w.alloc (.cells (arrK .u32 8 h) 100)).heap.size = w.heap.size + 1 := by simp
  have s2 : ((w.alloc (.cells (arrK .u32 8 h) 100)).alloc (.cells (arrK .u32 64 tabK) 101)).heap.size = w.heap.size + 2 := by simp
  have s3 : (((w.alloc (.cells (arrK .u32 8 h) 100)).alloc (.cells (arrK .u32 64 tabK) 101)).alloc (.cells (arrK .u32 8 fun _ => 0) 100)).heap.size = w.heap.size + 3 := by simp
  have b1 := alloc_below w (.cells (arrK .u32 8 h) 100)
  have b2 := alloc_below (w.alloc (.cells (arrK .u32 8 h) 100)) (.cells (arrK .u32 64 tabK) 101)
  have b3 := alloc_below ((w.alloc (.cells (arrK .u32 8 h) 100)).alloc (.cells (arrK .u32 64 tabK) 101)) (.cells (arrK .u32 8 fun _ => 0) 100)
  have b4 := alloc_below (((w.alloc (.cells (arrK .u32 8 h) 100)).alloc (.cells (arrK .u32 64 tabK) 101)).alloc (.cells (arrK .u32 8 fun _ => 0) 100)) (.cells (arrK .u32 64 fun _ => 0) 101)
  refine ⟨?_, ?_, ?_, ?_, ((b1.trans (b2.mono (by omega))).trans (b3.mono (by omega))).trans (b4.mono (by omega)), rfl⟩
  · exact (b4.block _ (by omega)).trans ((b3.block _ (by omega)).trans ((b2.block _ (by omega)).trans (heap_alloc_new _ _)))
  · have := heap_alloc_new (w.alloc (.cells (arrK .u32 8 h) 100)) (.cells (arrK .u32 64 tabK) 101)
    rw [s1] at this
    exact (b4.block _ (by omega)).trans ((b3.block _ (by omega)).trans this)
  · have := heap_alloc_new ((w.alloc (.cells (arrK .u32 8 h) 100)).alloc (.cells (arrK .u32 64 tabK) 101)) (.cells (arrK .u32 8 fun _ => 0) 100)
    rw [s2] at this
    exact (b4.block _ (by omega)).trans this
  · have := heap_alloc_new (((w.alloc (.cells (arrK .u32 8 h) 100)).alloc (.cells (arrK .u32 64 tabK) 101)).alloc (.cells (arrK .u32 8 fun _ => 0) 100)) (.cells (arrK .u32 64 fun _ => 0) 101)
    rw [s3] at this
    exact this
set_option maxRecDepth 100000 in
set_option maxHeartbeats 4000000 in
theorem next_any (pb po cap : Nat) (h p : Nat → Int) (w : World) (hp : Byt w pb po 64 p) (hcap : 64 ≤ cap) (hU : ∀ i, U32 (h i)) :
    Calls Tryd.prog 57 #[.agg (arrK .u32 8 h), .slice (some ⟨pb, po, none⟩) 64 cap, .agg (arrK .u32 64 tabK)] w fun e w' => e = .returned (.agg (arrK .u32 8 (blockF h p))) ∧ Below w.heap.size w w' := by
  have hpl := Lib.hid (World.block_lt_of_cell? w _ (hp 0 (by decide)).1)
  have HP := Lib.hid hp
  have HUU := Lib.hid hU
  have hs8 : SizeIs (arrK .u32 8 h) 8 := arrK_size _ _ _
  have ho8 := arrK_ones .u32 8 h
  have hs64 : SizeIs (arrK .u32 64 tabK) 64 := arrK_size _ _ _
  have ho64 := arrK_ones .u32 64 tabK
  clear hp hU
  go_enter Tryd.func57, Tryd.ntmps57
  go_wp2_with fail
  generalize hW0 : World.alloc _ _ = W0
  have A0 : NxR w.heap.size h (fun _ => 0) w W0 := by rw [← hW0]; exact nx_start w h (by kernel_rfl) (by kernel_rfl)
  clear hW0
  have e1 : w.heap.size + 1 + 1 = w.heap.size + 2 := rfl
  have e2 : w.heap.size + 1 + 1 + 1 = w.heap.size + 3 := rfl
  rw [e2, e1]
  clear e1 e2
  generalize w.heap.size = G at A0 ⊢
  go_loopw [8] (fun t wr => ∃ k : Nat, k ≤ 16 ∧ t = .int .i64 k ∧ NxR G h (part p k) w wr) (fun t _ => 16 - (intOf t).toNat)
  case atStart => exact ⟨0, by omega, rfl, A0.ext fun i hi => by unfold part; rw [if_neg (by omega)]⟩
  case round =>
    obtain ⟨k, hk, rfl, hX⟩ := hrel
    by_cases hlt : k < 16
    · have hb4 : ∀ j, j < 4 → wr.drew.cell? ⟨pb, po + (4 * k + j), none⟩ = some (.int .u8 (p (4 * k + j))) ∧ 0 ≤ p (4 * k + j) ∧ p (4 * k + j) < 256 := fun j hj => by
        have := HP.out (4 * k + j) (by omega)
        rw [World.cell?_drew, hX.bel.cell (p := ⟨pb, po + (4 * k + j), none⟩) hpl.out]; exact this
      obtain ⟨c0, l0, u0⟩ := hb4 0 (by omega)
      obtain ⟨c1, l1, u1⟩ := hb4 1 (by omega)
      obtain ⟨c2, l2, u2⟩ := hb4 2 (by omega)
      obtain ⟨c3, l3, u3⟩ := hb4 3 (by omega)
      have hws := word_sum ⟨l0, u0⟩ ⟨l1, u1⟩ ⟨l2, u2⟩ ⟨l3, u3⟩
      have hset := (hX.drewN 1).set k (wordI (p (4 * k + 0)) (p (4 * k + 1)) (p (4 * k + 2)) (p (4 * k + 3)))
      rw [show part p k = part p k from rfl, Nat.add_zero, part_succ] at hset
      rw [Nat.add_zero] at c0 l0 u0 hws
      have q := hX.ws.cell (i := k) (by omega)
      have fz := hX.ws.frozen k
      have hk0 : (0 : Int) ≤ k := by omega
      have hk1 : (k : Int) < 16 := by omega
      have HSET := Lib.hid hset
      have HWS := Lib.hid hws
      generalize p (4 * k) = b0 at *
      generalize p (4 * k + 1) = b1 at *
      generalize p (4 * k + 2) = b2 at *
      generalize p (4 * k + 3) = b3 at *
      clear hb4 hX hset hws
      go_wp2_with fail
      refine wp_region_tail_lit 35 (by kernel_rfl) (by kernel_rfl) ?_
      simp only [List.take_succ_cons, List.take_zero, List.drop_succ_cons, List.drop_zero]
      repeat (go_big_quiet_step (fail))
      refine wpQuiet_nil ?_
      go_wp2_with fail
      go_roundw
      case rel => exact ⟨k + 1, by omega, by go_num, by rw [← HWS.out]; exact HSET.out⟩
      case measure => simp [intOf]; omega
    · have A1 : NxR G h (sch p 0) w wr := by
        obtain rfl : k = 16 := by omega
        exact hX.ext (f' := sch p 0) fun i hi => rfl
      clear hX
      go_wp2_with fail
      go_loopw [9] (fun t wv => ∃ i : Nat, 16 ≤ i ∧ i ≤ 64 ∧ t = .int .i64 i ∧ NxR G h (sch p (i - 16)) w wv) (fun t _ => 64 - (intOf t).toNat)
      case atStart => exact ⟨16, by omega, by omega, rfl, A1⟩
      case round =>
        obtain ⟨i, hi0, hi, rfl, hX⟩ := hrel
        by_cases hlt2 : i < 64
        · have Av := hX.ws
          have q16 := Av.cell (i := i - 16) (by omega)
          have q15 := Av.cell (i := i - 15) (by omega)
          have q7 := Av.cell (i := i - 7) (by omega)
          have q2 := Av.cell (i := i - 2) (by omega)
          have q0 := Av.cell (i := i) (by omega)
          have hfz := Av.frozen i
          have hU := u32_sch p (i - 16)
          have e16 := wrap_sub (i := i) (k := 16) (by omega) (by omega)
          have e15 := wrap_sub (i := i) (k := 15) (by omega) (by omega)
          have e7 := wrap_sub (i := i) (k := 7) (by omega) (by omega)
          have e2 := wrap_sub (i := i) (k := 2) (by omega) (by omega)
          have hn16 : ((i - 16 : Nat) : Int) < 64 := by omega
          have hn15 : ((i - 15 : Nat) : Int) < 64 := by omega
          have hn7 : ((i - 7 : Nat) : Int) < 64 := by omega
          have hn2 : ((i - 2 : Nat) : Int) < 64 := by omega
          have hn0 : (i : Int) < 64 := by omega
          have hni : (0 : Int) ≤ i := by omega
          have h16 := hU (i - 16)
          have h15 := hU (i - 15)
          have h7 := hU (i - 7)
          have h2 := hU (i - 2)
          have AX := Lib.hid hX
          clear Av hU hX A1
          go_wp2_with fail
          generalize hx16 : sch p (i - 16) (i - 16) = x16 at *
          have HX16 := Lib.hid hx16
          clear hx16
          generalize hx15 : sch p (i - 16) (i - 15) = x15 at *
          have HX15 := Lib.hid hx15
          clear hx15
          generalize hx7 : sch p (i - 16) (i - 7) = x7 at *
          have HX7 := Lib.hid hx7
          clear hx7
          generalize hx2 : sch p (i - 16) (i - 2) = x2 at *
          have HX2 := Lib.hid hx2
          clear hx2
          generalize sch p (i - 16) i = x0 at *
          obtain ⟨u1, u2⟩ := h16
          obtain ⟨u3, u4⟩ := h15
          obtain ⟨u5, u6⟩ := h7
          obtain ⟨u7, u8⟩ := h2
          go_quiet (fail)
          have c1 := Lib.hid (turn_any 7 (by omega) (by omega) x15 u3 u4)
          have c2 := Lib.hid (turn_any 18 (by omega) (by omega) x15 u3 u4)
          have c3 := Lib.hid (turn_any 17 (by omega) (by omega) x2 u7 u8)
          have c4 := Lib.hid (turn_any 19 (by omega) (by omega) x2 u7 u8)
          go_wp2_with fail
          refine (c1.out _).mono ?_
          rintro e w2 ⟨rfl, rfl⟩
          go_wp2_with fail
          refine (c2.out _).mono ?_
          rintro e w2 ⟨rfl, rfl⟩
          go_wp2_with fail
          refine (c3.out _).mono ?_
          rintro e w2 ⟨rfl, rfl⟩
          go_wp2_with fail
          refine (c4.out _).mono ?_
          rintro e w2 ⟨rfl, rfl⟩
          go_wp2_with fail
          clear c1 c2 c3 c4 e16 e15 e7 e2
          obtain ⟨v1, v2⟩ := u32_bits BinOp.xor (bits BinOp.xor .u32 (rotl x15 25) (rotl x15 14)) (x15 / 8)
          obtain ⟨v3, v4⟩ := u32_bits BinOp.xor (bits BinOp.xor .u32 (rotl x2 15) (rotl x2 13)) (x2 / 1024)
          generalize hs0 : bits BinOp.xor .u32 (bits BinOp.xor .u32 (rotl x15 25) (rotl x15 14)) (x15 / 8) = s0 at *
          generalize hs1 : bits BinOp.xor .u32 (bits BinOp.xor .u32 (rotl x2 15) (rotl x2 13)) (x2 / 1024) = s1 at *
          have HS0 := Lib.hid hs0
          have HS1 := Lib.hid hs1
          clear hs0 hs1
          refine wp_region_tail_lit 15 (by kernel_rfl) (by kernel_rfl) ?_
          simp only [List.take_succ_cons, List.take_zero, List.drop_succ_cons, List.drop_zero]
          repeat (go_big_quiet_step (fail))
          refine wpQuiet_nil ?_
          go_wp2_with fail
          go_roundw
          case rel => exact ⟨i + 1, by omega, by omega, by go_num, by
            rw [← sch_succ hi0 HX16.out HX15.out HX7.out HX2.out HS0.out HS1.out rfl]; exact NxR.set (wr := wr.drewN (nq + 1)) (AX.out.drewN (nq + 1)) i _⟩
          case measure => simp [intOf]; omega
        · have A2 : NxR G h (sch p 48) w wr := by
            obtain rfl : i = 64 := by omega
            exact hX
          have g0 := A2.st.cell (i := 0) (by omega)
          have g1 := A2.st.cell (i := 1) (by omega)
          have g2 := A2.st.cell (i := 2) (by omega)
          have g3 := A2.st.cell (i := 3) (by omega)
          have g4 := A2.st.cell (i := 4) (by omega)
          have g5 := A2.st.cell (i := 5) (by omega)
          have g6 := A2.st.cell (i := 6) (by omega)
          have g7 := A2.st.cell (i := 7) (by omega)
          have HA2 := Lib.hid A2
          clear A2 A1 hX
          go_wp2_with fail
          go_quiet (fail)
          have HA3 := Lib.hid (HA2.out.drewN nq)
          clear g0 g1 g2 g3 g4 g5 g6 g7 HA2
          generalize wr.drewN nq = W3 at *
          go_wp2_with fail
          go_loopw [22, 14, 15, 16, 17, 18, 19, 20, 21] (fun t a c d e f g k l wr => ∃ i : Nat, ∃ s : St8, i ≤ 64 ∧ s = rounds h p i ∧ t = .int .i64 i ∧ a = .int .u32 s.a ∧ c = .int .u32 s.c ∧ d = .int .u32 s.d ∧ e = .int .u32 s.e ∧ f = .int .u32 s.f ∧ g = .int .u32 s.g ∧ k = .int .u32 s.k ∧ l = .int .u32 s.l ∧ NxR G h (sch p 48) w wr) (fun t _ _ _ _ _ _ _ _ _ => 64 - (intOf t).toNat)
          case atStart => exact ⟨0, _, by omega, rfl, rfl, rfl, rfl, rfl, rfl, rfl, rfl, rfl, rfl, HA3.out⟩
          case round =>
            obtain ⟨i, s, hi, hs, rfl, rfl, rfl, rfl, rfl, rfl, rfl, rfl, rfl, hX⟩ := hrel
            have hok : s.ok := by rw [hs]; exact rounds_ok HUU.out i
            have HSS := Lib.hid hs
            by_cases hlt : i < 64
            · obtain ⟨a, c, d, e, f, g, k, l⟩ := s
              obtain ⟨⟨a1, a2⟩, ⟨c1, c2⟩, ⟨d1, d2⟩, ⟨e1, e2⟩, ⟨f1, f2⟩, ⟨g1, g2⟩, ⟨k1, k2⟩, ⟨l1, l2⟩⟩ := hok
              simp only at a1 a2 c1 c2 d1 d2 e1 e2 f1 f2 g1 g2 k1 k2 l1 l2
              dsimp only
              have hi0 : (0 : Int) ≤ i := by omega
              have hi1 : (i : Int) < 64 := by omega
              have htc := hX.tb.cell (i := i) hlt
              have hxc := hX.ws.cell (i := i) hlt
              obtain ⟨x1, x2⟩ := u32_sch p 48 i
              obtain ⟨t1, t2⟩ := u32_tab i
              have hstep := Lib.hid (show rnd ⟨a, c, d, e, f, g, k, l⟩ (tabK i) (sch p 48 i) = rounds h p (i + 1) by rw [hs]; rfl)
              have HX := Lib.hid hX
              clear hs hX
              generalize sch p 48 i = x at *
              generalize tabK i = kt at *
              have m1 := Lib.hid (three_any 6 11 25 (by omega) (by omega) (by omega) (by omega) (by omega) (by omega) f f1 f2)
              have m4 := Lib.hid (three_any 2 13 22 (by omega) (by omega) (by omega) (by omega) (by omega) (by omega) a a1 a2)
              obtain ⟨z1, z2⟩ := u32_bits BinOp.xor (bits BinOp.xor .u32 (rotl f 26) (rotl f 21)) (rotl f 7)
              obtain ⟨y1, y2⟩ := u32_bits BinOp.xor (bits BinOp.xor .u32 (rotl a 30) (rotl a 19)) (rotl a 10)
              go_wp2_with fail
              have q1 := Lib.hid (fun (w' : World) n => Calls.quiet_of_same (w := w') (n := n) ((m1.out (w'.drewN n)).mono fun _ _ hh => ⟨hh.1, hh.2.symm⟩))
              go_quiet ((go_at_call 60; exact q1.out _ _))
              have HX2 := Lib.hid (HX.out.drewN nq)
              generalize wr.drewN nq = W5 at *
              go_wp2_with fail
              refine (m4.out _).mono ?_
              rintro e' w2 ⟨rfl, rfl⟩
              go_wp2_with fail
              go_roundw
              case rel => exact ⟨i + 1, rnd ⟨a, c, d, e, f, g, k, l⟩ kt x, by omega, hstep.out, by go_num, rfl, rfl, rfl, rfl, rfl, rfl, rfl, rfl, HX2.out⟩
              case measure => simp [intOf]; omega
            · have hs64 : s = rounds h p 64 := by rw [hs, show i = 64 by omega]
              have HS64 := Lib.hid hs64
              have g0 := hX.st.cell (i := 0) (by omega)
              have g1 := hX.st.cell (i := 1) (by omega)
              have g2 := hX.st.cell (i := 2) (by omega)
              have g3 := hX.st.cell (i := 3) (by omega)
              have g4 := hX.st.cell (i := 4) (by omega)
              have g5 := hX.st.cell (i := 5) (by omega)
              have g6 := hX.st.cell (i := 6) (by omega)
              have g7 := hX.st.cell (i := 7) (by omega)
              obtain ⟨l0, u0⟩ := HUU.out 0
              obtain ⟨l1, u1⟩ := HUU.out 1
              obtain ⟨l2, u2⟩ := HUU.out 2
              obtain ⟨l3, u3⟩ := HUU.out 3
              obtain ⟨l4, u4⟩ := HUU.out 4
              obtain ⟨l5, u5⟩ := HUU.out 5
              obtain ⟨l6, u6⟩ := HUU.out 6
              obtain ⟨l7, u7⟩ := HUU.out 7
              have HX := Lib.hid hX
              have hres : blockF h p = fun j => (h j + s8 s j) % 4294967296 := by rw [hs64]; rfl
              have HRES := Lib.hid hres
              obtain ⟨a, c, d, e, f, g, k, l⟩ := s
              obtain ⟨⟨a1, a2⟩, ⟨c1, c2⟩, ⟨d1, d2⟩, ⟨e1, e2⟩, ⟨f1, f2⟩, ⟨g1, g2⟩, ⟨k1, k2⟩, ⟨l1', l2'⟩⟩ := hok
              simp only at a1 a2 c1 c2 d1 d2 e1 e2 f1 f2 g1 g2 k1 k2 l1' l2'
              dsimp only
              have hcs : (#[.int .u32 ((h 0 + a) % 4294967296), .int .u32 ((h 1 + c) % 4294967296), .int .u32 ((h 2 + d) % 4294967296), .int .u32 ((h 3 + e) % 4294967296), .int .u32 ((h 4 + f) % 4294967296), .int .u32 ((h 5 + g) % 4294967296), .int .u32 ((h 6 + k) % 4294967296), .int .u32 ((h 7 + l) % 4294967296)] : Array Value) = arrK .u32 8 (blockF h p) := by rw [HRES.out]; rfl
              have hsz8 : SizeIs #[.int .u32 ((h 0 + a) % 4294967296), .int .u32 ((h 1 + c) % 4294967296), .int .u32 ((h 2 + d) % 4294967296), .int .u32 ((h 3 + e) % 4294967296), .int .u32 ((h 4 + f) % 4294967296), .int .u32 ((h 5 + g) % 4294967296), .int .u32 ((h 6 + k) % 4294967296), .int .u32 ((h 7 + l) % 4294967296)] 8 := by rw [hcs]; exact arrK_size _ _ _
              have hon8 : oneCells #[.int .u32 ((h 0 + a) % 4294967296), .int .u32 ((h 1 + c) % 4294967296), .int .u32 ((h 2 + d) % 4294967296), .int .u32 ((h 3 + e) % 4294967296), .int .u32 ((h 4 + f) % 4294967296), .int .u32 ((h 5 + g) % 4294967296), .int .u32 ((h 6 + k) % 4294967296), .int .u32 ((h 7 + l) % 4294967296)] = true := by rw [hcs]; exact arrK_ones _ _ _
              obtain ⟨pr1, pr2⟩ := putRow_later (Below.refl wr.heap.size wr) hX.rs (arrK_size .u32 8 fun _ => 0) hsz8 hon8
              have hfin := below_setRow hX.bel (show w.heap.size ≤ G + 2 by have := hX.ge; omega) #[.int .u32 ((h 0 + a) % 4294967296), .int .u32 ((h 1 + c) % 4294967296), .int .u32 ((h 2 + d) % 4294967296), .int .u32 ((h 3 + e) % 4294967296), .int .u32 ((h 4 + f) % 4294967296), .int .u32 ((h 5 + g) % 4294967296), .int .u32 ((h 6 + k) % 4294967296), .int .u32 ((h 7 + l) % 4294967296)]
              have E := Lib.hid (And.intro hcs hfin)
              clear hX hs hs64 hres hcs hfin hsz8 hon8
              go_wp2_with fail
              refine bodyPost_ret (v := .agg #[.int .u32 ((h 0 + a) % 4294967296), .int .u32 ((h 1 + c) % 4294967296), .int .u32 ((h 2 + d) % 4294967296), .int .u32 ((h 3 + e) % 4294967296), .int .u32 ((h 4 + f) % 4294967296), .int .u32 ((h 5 + g) % 4294967296), .int .u32 ((h 6 + k) % 4294967296), .int .u32 ((h 7 + l) % 4294967296)]) (by rw [results_cell1 Tryd.results57]; simp [go_sem, *]) rfl ?_
              exact ⟨by rw [E.out.1], E.out.2⟩
end Go.Proofs.YtldicnhpccionaaDoor
