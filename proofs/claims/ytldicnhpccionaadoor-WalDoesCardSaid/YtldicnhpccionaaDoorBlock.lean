/-
SHA-256 in the program: what a block does to the state.
-/
import Derived.Test.YtldicnhpccionaaDoorShaW
import Derived.Deep.DeepCutAuto
import Derived.BigRegion
import Derived.OneCell
import Derived.IntWalk
namespace Go.Proofs.YtldicnhpccionaaDoor
open Go.RowKit
set_option linter.unusedVariables false
set_option linter.unusedSimpArgs false

/-- the bytes of a block -/
def Byt (w : World) (b o : Nat) (n : Nat) (p : Nat → Int) : Prop := ∀ i, i < n → w.cell? ⟨b, o + i, none⟩ = some (.int .u8 (p i)) ∧ 0 ≤ p i ∧ p i < 256
def part (p : Nat → Int) (k : Nat) : Nat → Int := fun i => if i < k then wordI (p (4 * i)) (p (4 * i + 1)) (p (4 * i + 2)) (p (4 * i + 3)) else 0
theorem part_succ (p : Nat → Int) (k : Nat) : upd (part p k) k (wordI (p (4 * k)) (p (4 * k + 1)) (p (4 * k + 2)) (p (4 * k + 3))) = part p (k + 1) := by
  funext i
  unfold upd part
  by_cases e : i = k
  · subst e; rw [if_pos rfl, if_pos (by omega)]
  · rw [if_neg e]
    by_cases h : i < k
    · rw [if_pos h, if_pos (by omega)]
    · rw [if_neg h, if_neg (by omega)]
theorem zero_arr : (#[] : Array Value).size = 0 := rfl
theorem arr_new {w : World} {c : Array Value} {t : TypeId} {n : Nat} (h : c = arrK .u32 n fun _ => 0) : Arr (w.alloc (.cells c t)) w.heap.size t .u32 n (fun _ => 0) := by
  subst h
  exact heap_alloc_new _ _

theorem infoU32 : Tryd.prog.info? 99 = some ((Tryd.prog.info? 99).getD default) ∧ ((Tryd.prog.info? 99).getD default).size = 1 := ⟨by kernel_rfl, by kernel_rfl⟩
theorem wrap_sub {i k : Nat} (h : k ≤ i) (hi : i ≤ 64) : IntKind.i64.wrap ((i : Int) - (k : Int)) = ((i - k : Nat) : Int) := by rw [IntWalk.i64_in _ (by omega)]; omega
theorem below_drewN {B : Nat} {w w' : World} (h : Below B w w') (n : Nat) : Below B w (w'.drewN n) := h.trans ⟨rfl, rfl, rfl, Nat.le_refl _, fun _ _ => rfl⟩
set_option maxRecDepth 100000 in
set_option maxHeartbeats 4000000 in
theorem block_any (hb pb po cap : Nat) (h p : Nat → Int) (w : World) (hh : Arr w hb 104 .u32 8 h) (hp : Byt w pb po 64 p) (hne : pb ≠ hb) (hcap : 64 ≤ cap) (htab : Tab w) (hw0 : 0 < hb) (hU : ∀ i, U32 (h i)) :
    Calls Tryd.prog 58 #[.pointer (some ⟨hb, 0, none⟩), .slice (some ⟨pb, po, none⟩) 64 cap] w fun e w' => e = .returned (.tuple #[]) ∧ Arr w' hb 104 .u32 8 (blockF h p) ∧ w.grownBy w' (some hb) := by
  have hpl := Lib.hid (World.block_lt_of_cell? w _ (hp 0 (by decide)).1)
  have HP := Lib.hid hp
  have HT := Lib.hid htab
  have hbz := Lib.hid (show 0 < w.heap.size from Nat.lt_trans hw0 hh.lt)
  have HUU := Lib.hid hU
  have HH := Lib.hid hh
  have hhl := hh.lt
  clear hp hh htab hU
  go_enter Tryd.func58, Tryd.ntmps58
  go_wp2_with fail
  generalize hW0 : World.alloc w _ = W0
  have A0 : Arr W0 w.heap.size 101 .u32 64 (fun _ => 0) := by rw [← hW0]; exact arr_new (by kernel_rfl)
  have b0 : Below w.heap.size w W0 := by rw [← hW0]; exact (Below.refl _ _).alloc (Nat.le_refl _) _
  clear hW0
  go_loopw [26] (fun t wr => ∃ k : Nat, k ≤ 16 ∧ t = .int .i64 k ∧ Below w.heap.size w wr ∧ Arr wr w.heap.size 101 .u32 64 (part p k)) (fun t _ => 16 - (intOf t).toNat)
  case atStart => exact ⟨0, by omega, rfl, b0, A0.ext fun i hi => by unfold part; rw [if_neg (by omega)]⟩
  case round =>
    obtain ⟨k, hk, rfl, hbw, Ar⟩ := hrel
    by_cases hlt : k < 16
    · have hb4 : ∀ j, j < 4 → wr.cell? ⟨pb, po + 4 * k + j, none⟩ = some (.int .u8 (p (4 * k + j))) ∧ 0 ≤ p (4 * k + j) ∧ p (4 * k + j) < 256 := fun j hj => by
        have := HP.out (4 * k + j) (by omega)
        rw [hbw.cell (p := ⟨pb, po + 4 * k + j, none⟩) hpl.out, Nat.add_assoc]; exact this
      have hw := Lib.hid (fun cap' => word_any pb (po + 4 * k) (64 - 4 * k) cap' _ _ _ _ wr (by omega) (hb4 0 (by omega)).1 (hb4 1 (by omega)).1 (hb4 2 (by omega)).1 (hb4 3 (by omega)).1 (hb4 0 (by omega)).2 (hb4 1 (by omega)).2 (hb4 2 (by omega)).2 (hb4 3 (by omega)).2)
      have hk0 : (0 : Int) ≤ k := by omega
      have hk1 : (k : Int) < 16 := by omega
      have hc1 : (64 : Int) ≤ cap := by omega
      have hc2 : ¬ cap = 4 * k := by omega
      have Ax := Lib.hid Ar
      have hcell := Ar.cell (i := k) (by omega)
      have hfz := Ar.frozen k
      clear hb4 Ar
      go_wp2_with fail
      refine (hw.out _).mono ?_
      rintro e w1 ⟨rfl, m, rfl⟩
      go_wp2_with fail
      go_roundw
      case rel =>
        exact ⟨k + 1, by omega, by go_num, (below_drewN hbw _).setCell (Nat.le_refl _) _, by rw [← part_succ]; exact Ax.out.set _ _⟩
      case measure => simp [intOf]; omega
    · have A1 : Arr wr w.heap.size 101 .u32 64 (sch p 0) := by
        obtain rfl : k = 16 := by omega
        exact Ar.ext (f' := sch p 0) fun i hi => rfl
      have B1 := Lib.hid hbw
      clear Ar hbw
      go_wp2_with fail
      go_loopw [6] (fun t wv => ∃ i : Nat, 16 ≤ i ∧ i ≤ 64 ∧ t = .int .i64 i ∧ Below w.heap.size w wv ∧ Arr wv w.heap.size 101 .u32 64 (sch p (i - 16))) (fun t _ => 64 - (intOf t).toNat)
      case atStart => exact ⟨16, by omega, by omega, rfl, B1.out, A1⟩
      case round =>
        obtain ⟨i, hi0, hi, rfl, hbv, Av⟩ := hrel
        by_cases hlt2 : i < 64
        · have q16 := Av.cell (i := i - 16) (by omega)
          have q15 := Av.cell (i := i - 15) (by omega)
          have q7 := Av.cell (i := i - 7) (by omega)
          have q2 := Av.cell (i := i - 2) (by omega)
          have q0 := Av.cell (i := i) (by omega)
          have hfz := Av.frozen i
          have hU := u32_sch p (i - 16)
          have e16 := wrap_sub (i := i) (k := 16) (by omega) (by omega)
          have e15 := wrap_sub (i := i) (k := 15) (by omega) (by omega)
          have e7 := wrap_sub (i := i) (k := 7) (by omega) (by omega)
          have e2 := wrap_sub (i := i) (k := 2) (by omega) (by omega)
          have hn16 : ((i - 16 : Nat) : Int) < 64 := by omega
          have hn15 : ((i - 15 : Nat) : Int) < 64 := by omega
          have hn7 : ((i - 7 : Nat) : Int) < 64 := by omega
          have hn2 : ((i - 2 : Nat) : Int) < 64 := by omega
          have hn0 : (i : Int) < 64 := by omega
          have hni : (0 : Int) ≤ i := by omega
          have hnxt : nxt (sch p (i - 16)) i = nxt (sch p (i - 16)) i := rfl
          have h16 := hU (i - 16)
          have h15 := hU (i - 15)
          have h7 := hU (i - 7)
          have h2 := hU (i - 2)
          have AX := Lib.hid Av
          have HU := Lib.hid hU
          clear Av hU hnxt
          go_wp2_with fail
          generalize hx16 : sch p (i - 16) (i - 16) = x16 at *
          have HX16 := Lib.hid hx16
          clear hx16
          generalize hx15 : sch p (i - 16) (i - 15) = x15 at *
          have HX15 := Lib.hid hx15
          clear hx15
          generalize hx7 : sch p (i - 16) (i - 7) = x7 at *
          have HX7 := Lib.hid hx7
          clear hx7
          generalize hx2 : sch p (i - 16) (i - 2) = x2 at *
          have HX2 := Lib.hid hx2
          clear hx2
          generalize sch p (i - 16) i = x0 at *
          obtain ⟨u1, u2⟩ := h16
          obtain ⟨u3, u4⟩ := h15
          obtain ⟨u5, u6⟩ := h7
          obtain ⟨u7, u8⟩ := h2
          go_quiet (fail)
          have r1 := u32_bits BinOp.xor (bits BinOp.xor .u32 (rotl x15 25) (rotl x15 14)) (x15 / 8)
          have c1 := Lib.hid (rot_any (-7) 25 (by decide) (by omega) (by omega) x15 u3 u4)
          have c2 := Lib.hid (rot_any (-18) 14 (by decide) (by omega) (by omega) x15 u3 u4)
          have c3 := Lib.hid (rot_any (-17) 15 (by decide) (by omega) (by omega) x2 u7 u8)
          have c4 := Lib.hid (rot_any (-19) 13 (by decide) (by omega) (by omega) x2 u7 u8)
          go_wp2_with fail
          refine (c1.out _).mono ?_
          rintro e w2 ⟨rfl, rfl⟩
          go_wp2_with fail
          refine (c2.out _).mono ?_
          rintro e w2 ⟨rfl, rfl⟩
          go_wp2_with fail
          refine (c3.out _).mono ?_
          rintro e w2 ⟨rfl, rfl⟩
          go_wp2_with fail
          refine (c4.out _).mono ?_
          rintro e w2 ⟨rfl, rfl⟩
          go_wp2_with fail
          clear c1 c2 c3 c4 r1 e16 e15 e7 e2
          obtain ⟨v1, v2⟩ := u32_bits BinOp.xor (bits BinOp.xor .u32 (rotl x15 25) (rotl x15 14)) (x15 / 8)
          obtain ⟨v3, v4⟩ := u32_bits BinOp.xor (bits BinOp.xor .u32 (rotl x2 15) (rotl x2 13)) (x2 / 1024)
          generalize hs0 : bits BinOp.xor .u32 (bits BinOp.xor .u32 (rotl x15 25) (rotl x15 14)) (x15 / 8) = s0 at *
          generalize hs1 : bits BinOp.xor .u32 (bits BinOp.xor .u32 (rotl x2 15) (rotl x2 13)) (x2 / 1024) = s1 at *
          have HS0 := Lib.hid hs0
          have HS1 := Lib.hid hs1
          clear hs0 hs1
          refine wp_region_tail_lit 15 (by kernel_rfl) (by kernel_rfl) ?_
          simp only [List.take_succ_cons, List.take_zero, List.drop_succ_cons, List.drop_zero]
          repeat (go_big_quiet_step (fail))
          refine wpQuiet_nil ?_
          go_wp2_with fail
          go_roundw
          case rel => exact ⟨i + 1, by omega, by omega, by go_num, (below_drewN hbv _).setCell (Nat.le_refl _) _, by
            rw [← sch_succ hi0 HX16.out HX15.out HX7.out HX2.out HS0.out HS1.out rfl]; exact Arr.set (w := wr.drewN (nq + 1)) AX.out i _⟩
          case measure => simp [intOf]; omega
        · have A2 : Hid (Arr wr w.heap.size 101 .u32 64 (sch p 48)) := Lib.hid (by
            obtain rfl : i = 64 := by omega
            exact Av)
          have B2 := Lib.hid hbv
          have hhs := (Arr.of HH.out (hbv.block hb hhl))
          have g0 := hhs.cell (i := 0) (by omega)
          have g1 := hhs.cell (i := 1) (by omega)
          have g2 := hhs.cell (i := 2) (by omega)
          have g3 := hhs.cell (i := 3) (by omega)
          have g4 := hhs.cell (i := 4) (by omega)
          have g5 := hhs.cell (i := 5) (by omega)
          have g6 := hhs.cell (i := 6) (by omega)
          have g7 := hhs.cell (i := 7) (by omega)
          have HS := Lib.hid hhs
          clear hhs Av hbv
          go_wp2_with fail
          go_quiet (fail)
          have B3 := Lib.hid (below_drewN B2.out nq)
          have A3 : Arr (wr.drewN nq) w.heap.size 101 .u32 64 (sch p 48) := A2.out
          have R3 := A3.row
          have HS3 : Arr (wr.drewN nq) hb 104 .u32 8 h := HS.out
          have HS3 := Lib.hid HS3
          clear A3 g0 g1 g2 g3 g4 g5 g6 g7 A2 B2 HS
          generalize wr.drewN nq = W3 at *
          go_wp2_with fail
          go_loop [113, 11, 12, 13, 14, 15, 16, 17, 18] (fun t a c d e f g k l => ∃ i : Nat, ∃ s : St8, i ≤ 64 ∧ s = rounds h p i ∧ t = .int .i64 i ∧ a = .int .u32 s.a ∧ c = .int .u32 s.c ∧ d = .int .u32 s.d ∧ e = .int .u32 s.e ∧ f = .int .u32 s.f ∧ g = .int .u32 s.g ∧ k = .int .u32 s.k ∧ l = .int .u32 s.l) (fun t _ _ _ _ _ _ _ _ => 64 - (intOf t).toNat)
          case atStart => exact ⟨0, _, by omega, rfl, rfl, rfl, rfl, rfl, rfl, rfl, rfl, rfl, rfl⟩
          case round =>
            obtain ⟨i, s, hi, hs, rfl, rfl, rfl, rfl, rfl, rfl, rfl, rfl, rfl⟩ := hrel
            have hok : s.ok := by rw [hs]; exact rounds_ok HUU.out i
            have HSS := Lib.hid hs
            by_cases hlt : i < 64
            · obtain ⟨a, c, d, e, f, g, k, l⟩ := s
              obtain ⟨⟨a1, a2⟩, ⟨c1, c2⟩, ⟨d1, d2⟩, ⟨e1, e2⟩, ⟨f1, f2⟩, ⟨g1, g2⟩, ⟨k1, k2⟩, ⟨l1, l2⟩⟩ := hok
              simp only at a1 a2 c1 c2 d1 d2 e1 e2 f1 f2 g1 g2 k1 k2 l1 l2
              dsimp only
              have hi0 : (0 : Int) ≤ i := by omega
              have hi1 : (i : Int) < 64 := by omega
              have hix := run_index_arr Tryd.underlying101 infoU32.1 infoU32.2 Tryd.underlying99 (sch p 48) hlt W3
              have htc : W3.cell? ⟨0, i, none⟩ = some (.int .u32 (tabK i)) := (B3.out.cell (p := ⟨0, i, none⟩) hbz.out).trans (HT.out i hlt)
              obtain ⟨x1, x2⟩ := u32_sch p 48 i
              obtain ⟨t1, t2⟩ := u32_tab i
              have hstep := Lib.hid (show rnd ⟨a, c, d, e, f, g, k, l⟩ (tabK i) (sch p 48 i) = rounds h p (i + 1) by rw [hs]; rfl)
              clear hs
              generalize sch p 48 i = x at *
              generalize tabK i = kt at *
              have m1 := Lib.hid (rot_any (-6) 26 (by decide) (by omega) (by omega) f f1 f2)
              have m2 := Lib.hid (rot_any (-11) 21 (by decide) (by omega) (by omega) f f1 f2)
              have m3 := Lib.hid (rot_any (-25) 7 (by decide) (by omega) (by omega) f f1 f2)
              have m4 := Lib.hid (rot_any (-2) 30 (by decide) (by omega) (by omega) a a1 a2)
              have m5 := Lib.hid (rot_any (-13) 19 (by decide) (by omega) (by omega) a a1 a2)
              have m6 := Lib.hid (rot_any (-22) 10 (by decide) (by omega) (by omega) a a1 a2)
              go_wp2_with fail
              refine (m1.out _).mono ?_
              rintro e' w2 ⟨rfl, rfl⟩
              go_wp2_with fail
              refine (m2.out _).mono ?_
              rintro e' w2 ⟨rfl, rfl⟩
              go_wp2_with fail
              refine (m3.out _).mono ?_
              rintro e' w2 ⟨rfl, rfl⟩
              obtain ⟨z1, z2⟩ := u32_bits BinOp.xor (bits BinOp.xor .u32 (rotl f 26) (rotl f 21)) (rotl f 7)
              go_wp2_with fail
              refine (m4.out _).mono ?_
              rintro e' w2 ⟨rfl, rfl⟩
              go_wp2_with fail
              refine (m5.out _).mono ?_
              rintro e' w2 ⟨rfl, rfl⟩
              go_wp2_with fail
              refine (m6.out _).mono ?_
              rintro e' w2 ⟨rfl, rfl⟩
              obtain ⟨y1, y2⟩ := u32_bits BinOp.xor (bits BinOp.xor .u32 (rotl a 30) (rotl a 19)) (rotl a 10)
              go_wp2_with fail
              go_round
              case rel => exact ⟨i + 1, rnd ⟨a, c, d, e, f, g, k, l⟩ kt x, by omega, hstep.out, by go_num, rfl, rfl, rfl, rfl, rfl, rfl, rfl, rfl⟩
              case measure => simp [intOf]; omega
            · have hs64 : s = rounds h p 64 := by rw [hs, show i = 64 by omega]
              have HS64 := Lib.hid hs64
              clear hs hs64 R3
              go_wp2_with fail
              rw [arr8 s]
              go_loopw [186] (fun t wr => ∃ j : Nat, j ≤ 8 ∧ t = .int .i64 j ∧ Arr wr hb 104 .u32 8 (mix h p j) ∧ w.grownBy wr (some hb)) (fun t _ => 8 - (intOf t).toNat)
              case atStart => exact ⟨0, by omega, rfl, HS3.out.ext fun i _ => by unfold mix; rw [if_neg (by omega)], ⟨B3.out.os, B3.out.tape, B3.out.output, B3.out.size, fun k hk _ => B3.out.block k hk⟩⟩
              case round =>
                obtain ⟨j, hj, rfl, Aj, Gj⟩ := hrel
                by_cases hlt8 : j < 8
                · have hj0 : (0 : Int) ≤ j := by omega
                  have hj1 : (j : Int) < 8 := by omega
                  have hix := fun w => run_index_arr Tryd.underlying100 infoU32.1 infoU32.2 Tryd.underlying99 (s8 s) hlt8 w
                  have q := Aj.cell (i := j) hlt8
                  rw [mix_at] at q
                  have fz := Aj.frozen j
                  obtain ⟨u1, u2⟩ := HUU.out j
                  have hx : s8 s j = s8 (rounds h p 64) j := by rw [HS64.out]
                  obtain ⟨v1, v2⟩ := s8_ok hok j
                  have hset := Arr.set Aj j ((h j + s8 (rounds h p 64) j) % 4294967296)
                  rw [mix_succ, ← hx] at hset
                  have hgr : w.grownBy (wr.setCell ⟨hb, j, none⟩ (.int .u32 ((h j + s8 s j) % 4294967296))) (some hb) := ⟨Gj.os, Gj.tape, Gj.output, by simpa [World.setCell] using Gj.size, fun k hk hne => (heap_setCell_other wr _ k _ (fun e => hne (by rw [e]))).trans (Gj.block k hk hne)⟩
                  have HSET := Lib.hid hset
                  have HGR := Lib.hid hgr
                  clear hset hgr Aj Gj hx
                  generalize s8 s j = x at *
                  generalize h j = y at *
                  go_wp2_with fail
                  refine wp_region_tail_lit 9 (by kernel_rfl) (by kernel_rfl) ?_
                  simp only [List.take_succ_cons, List.take_zero, List.drop_succ_cons, List.drop_zero]
                  repeat (go_big_quiet_step (fail))
                  refine wpQuiet_nil ?_
                  go_wp2_with fail
                  go_roundw
                  case rel => exact ⟨j + 1, by omega, by go_num, HSET.out, ⟨HGR.out.os, HGR.out.tape, HGR.out.output, HGR.out.size, HGR.out.block⟩⟩
                  case measure => simp [intOf]; omega
                · have hj8 : 8 = j := by omega
                  have Aj' := Lib.hid (Aj.ext (f' := blockF h p) fun i hi => by unfold mix; rw [if_pos (by omega)])
                  have Gj' := Lib.hid Gj
                  clear Aj Gj
                  go_wp2_with fail
                  go_end0
                  exact ⟨rfl, Aj'.out, Gj'.out⟩

end Go.Proofs.YtldicnhpccionaaDoor
