/-
The reference's digest of bytes.
-/
import Derived.Test.YtldicnhpccionaaDoorRfP
namespace Go.Proofs.YtldicnhpccionaaDoor
open Go.RowKit
set_option linter.unusedVariables false
set_option linter.unusedSimpArgs false
theorem h0_arr : (#[.int .u32 1779033703, .int .u32 3144134277, .int .u32 1013904242, .int .u32 2773480762, .int .u32 1359893119, .int .u32 2600822924, .int .u32 528734635, .int .u32 1541459225] : Array Value) = arrK .u32 8 H0 := rfl
theorem ro_start (w : World) {c32 c8 : Array Value} {f : Nat → Int} (e32 : c32 = arrK .u8 32 fun _ => 0) (e8 : c8 = arrK .u32 8 f) :
    Arr ((w.alloc (.cells c32 67)).alloc (.cells c8 100)) w.heap.size 67 .u8 32 (fun _ => 0) ∧ Arr ((w.alloc (.cells c32 67)).alloc (.cells c8 100)) (w.heap.size + 1) 100 .u32 8 f ∧ Below w.heap.size w ((w.alloc (.cells c32 67)).alloc (.cells c8 100)) ∧ ((w.alloc (.cells c32 67)).alloc (.cells c8 100)).heap.size = w.heap.size + 2 := by
  subst e32; subst e8
  have s1 : (w.alloc (.cells (arrK .u8 32 fun _ => 0) 67)).heap.size = w.heap.size + 1 := by simp
  have b1 := alloc_below w (.cells (arrK .u8 32 fun _ => 0) 67)
  have b2 := alloc_below (w.alloc (.cells (arrK .u8 32 fun _ => 0) 67)) (.cells (arrK .u32 8 f) 100)
  refine ⟨(b2.block _ (by omega)).trans (heap_alloc_new _ _), ?_, b1.trans (b2.mono (by omega)), by simp⟩
  have := heap_alloc_new (w.alloc (.cells (arrK .u8 32 fun _ => 0) 67)) (.cells (arrK .u32 8 f) 100)
  rw [s1] at this
  exact this
set_option maxRecDepth 100000 in
set_option maxHeartbeats 4000000 in
theorem rfOf_any (A : Option Addr) (n cap : Nat) (l : List UInt8) (w : World) (h : BL w A l) (hl : l.length = n) (hA : A = none → cap = 0 ∧ l = []) (hn : n ≤ 100000) :
    Calls Tryd.prog 50 #[.slice A n cap] w fun e w' => e = .returned (.agg (arrK .u8 32 (digI (xl l) n))) ∧ Below w.heap.size w w' := by
  have hsH : SizeIs #[.int .u32 1779033703, .int .u32 3144134277, .int .u32 1013904242, .int .u32 2773480762, .int .u32 1359893119, .int .u32 2600822924, .int .u32 528734635, .int .u32 1541459225] 8 := rfl
  have hoH : oneCells #[.int .u32 1779033703, .int .u32 3144134277, .int .u32 1013904242, .int .u32 2773480762, .int .u32 1359893119, .int .u32 2600822924, .int .u32 528734635, .int .u32 1541459225] = true := by rw [h0_arr]; exact arrK_ones _ _ _
  have hsT : SizeIs (arrK .u32 64 tabK) 64 := arrK_size _ _ _
  have hoT := arrK_ones .u32 64 tabK
  have HB := Lib.hid h
  have HL := Lib.hid hl
  have HA := Lib.hid hA
  have hni : (n : Int) ≤ 100000 := by omega
  clear h hl hA
  go_enter Tryd.func50, Tryd.ntmps50
  go_wp2_with fail
  generalize hW0 : World.alloc _ _ = W0
  have hst := ro_start w (f := H0) (c32 := arrK .u8 32 fun _ => 0) rfl h0_arr
  obtain ⟨a1, a2, a3, a4⟩ : Arr W0 w.heap.size 67 .u8 32 (fun _ => 0) ∧ Arr W0 (w.heap.size + 1) 100 .u32 8 H0 ∧ Below w.heap.size w W0 ∧ W0.heap.size = w.heap.size + 2 := by rw [← hW0]; exact hst
  have hpd := Lib.hid (padded_any A n cap l W0 (HB.out.below a3) HL.out HA.out hn)
  have A1 := Lib.hid a1
  have A2 := Lib.hid a2
  have A3 := Lib.hid a3
  clear hW0 hst a1 a2 a3 hsH hoH
  refine hpd.out.mono ?_
  rintro e w1 ⟨v, rfl, ho, b1⟩
  have hnm := Lib.hid (nums_any w1)
  have hlen := padL_len l
  rw [HL.out] at hlen
  obtain ⟨N, hN⟩ : ∃ N, 64 * nBl n = N := ⟨_, rfl⟩
  rw [hN] at hlen
  obtain ⟨Ap, cp, rfl, hcp⟩ := ob_shape ho hlen
  have hNb : N ≤ 200000 := by rw [← hN]; unfold nBl; omega
  have hN64 : 64 ≤ N := by rw [← hN]; unfold nBl; omega
  obtain ⟨gp, cur, rfl, hgp, hh, -, -, -, hc⟩ := ob_cells ho hlen (by omega)
  have hgl : gp < w1.heap.size := (Array.getElem?_eq_some_iff.1 hh).1
  have B1 := Lib.hid b1
  have HC := Lib.hid hc
  have HLEN := Lib.hid hlen
  have HNE := Lib.hid hN
  clear ho b1 hc hh hlen hpd hN
  go_wp2_with fail
  refine hnm.out.mono ?_
  rintro e w2 ⟨rfl, b2⟩
  have b3 := alloc_below w2 (.cells (arrK .u32 64 tabK) 101)
  have T3 := Lib.hid (show Arr (w2.alloc (.cells (arrK .u32 64 tabK) 101)) w2.heap.size 101 .u32 64 tabK from heap_alloc_new _ _)
  have B3 := Lib.hid (b2.trans (b3.mono b2.size))
  have hw2 : w1.heap.size ≤ w2.heap.size := b2.size
  have hw3 : (w2.alloc (.cells (arrK .u32 64 tabK) 101)).heap.size = w2.heap.size + 1 := by simp
  clear b2 b3 hnm
  go_wp2_with fail
  generalize w2.alloc (.cells (arrK .u32 64 tabK) 101) = w3 at T3 B3 hw3 ⊢
  have hw1 := B1.out.size
  go_loopw [6] (fun t wr => ∃ j q : Nat, q = 64 * j ∧ j ≤ nBl n ∧ t = .int .i64 q ∧ Arr wr (w.heap.size + 1) 100 .u32 8 (hashB (padI (xl l) n) j) ∧ w3.grownBy wr (some (w.heap.size + 1))) (fun t _ => N - (intOf t).toNat)
  case atStart => exact ⟨0, 0, rfl, Nat.zero_le _, rfl, (A2.out.of ((B3.out.block _ (by omega)).trans (B1.out.block _ (by omega)))), grown_refl _ _⟩
  case round =>
    obtain ⟨j, q, hq, hj, rfl, hs, hg⟩ := hrel
    have hws := hg.size
    have hq0 : (0 : Int) ≤ q := by omega
    by_cases hlt : j < nBl n
    · have hqN : q + 64 ≤ N := by have := HNE.out; omega
      have hq1 : (q : Int) < N := by omega
      have hq2 : (q : Int) + 64 ≤ N := by omega
      have hNi : (N : Int) ≤ 200000 := by omega
      have hcp1 : (N : Int) ≤ cp := by omega
      have hcp2 : ¬ cp = q := by omega
      have hbyt : Byt wr.drew gp q 64 (fun i => padI (xl l) n (64 * j + i)) := fun i hi => by
        have hi2 : q + i < (padL l).length := by rw [HLEN.out]; omega
        have hc1 := HC.out (q + i) _ (bcs_get hi2)
        rw [Addr.add_mid, Nat.zero_add] at hc1
        have hpe := pad_eq l (i := q + i) (by rw [HL.out, HNE.out]; omega)
        rw [HL.out] at hpe
        have hxu := xl_u8 (padL l) (q + i)
        rw [hpe] at hc1 hxu
        rw [hq] at hc1 hxu
        refine ⟨?_, hxu⟩
        rw [World.cell?_drew, ← hc1]
        have e1 : wr.cell? ⟨gp, q + i, none⟩ = w3.cell? ⟨gp, q + i, none⟩ := World.cell?_of_block (hg.block gp (by omega) (by simp; omega))
        rw [e1, B3.out.cell (p := ⟨gp, q + i, none⟩) hgl, hq]
      have hnx := Lib.hid (next_any gp q (cp - q) (hashB (padI (xl l) n) j) _ wr.drew hbyt (by omega) (hashB_ok _ _))
      have htb : Arr wr w2.heap.size 101 .u32 64 tabK := T3.out.of (hg.block _ (by omega) (by simp; omega))
      have rt := htb.row
      have rs := hs.row
      have hsz := arrK_size .u32 8 (hashB (padI (xl l) n) (j + 1))
      have hszz : SizeIs (arrK .u32 8 (hashB (padI (xl l) n) (j + 1))) 8 := hsz
      have hon := arrK_ones .u32 8 (hashB (padI (xl l) n) (j + 1))
      have HS := Lib.hid hs
      have HG := Lib.hid hg
      have hstep : blockF (hashB (padI (xl l) n) j) (fun i => padI (xl l) n (64 * j + i)) = hashB (padI (xl l) n) (j + 1) := rfl
      rw [hstep] at hnx
      have HQ := Lib.hid hq
      clear hs hg hbyt htb hsz hstep hq
      go_wp2_with fail
      refine wp_region_tail_lit 7 (by kernel_rfl) (by kernel_rfl) ?_
      simp only [List.take_succ_cons, List.take_zero, List.drop_succ_cons, List.drop_zero]
      repeat (go_big_quiet_step (fail))
      refine wpQuiet_nil ?_
      go_wp2_with fail
      refine hnx.out.mono ?_
      rintro e w5 ⟨rfl, b5⟩
      obtain ⟨pr1, pr2⟩ := putRow_later (W := wr.drew) b5 HS.out (arrK_size .u32 8 _) hszz hon
      have hs5 : Arr (w5.setRow (w.heap.size + 1) (arrK .u32 8 (hashB (padI (xl l) n) (j + 1)))) (w.heap.size + 1) 100 .u32 8 (hashB (padI (xl l) n) (j + 1)) := by
        unfold Arr
        exact setRow_heap w5 _ _ _ 100 (0, 0) ((b5.block _ (by show w.heap.size + 1 < wr.heap.size; omega)).trans HS.out)
      have hg5 : w3.grownBy (w5.setRow (w.heap.size + 1) (arrK .u32 8 (hashB (padI (xl l) n) (j + 1)))) (some (w.heap.size + 1)) :=
        ⟨b5.os.trans HG.out.os, b5.tape.trans HG.out.tape, b5.output.trans HG.out.output, by simp; exact Nat.le_trans hws b5.size, fun k hk hne => (setRow_other w5 _ k _ (fun e => hne (by rw [e]))).trans ((b5.block k (Nat.lt_of_lt_of_le hk hws)).trans (HG.out.block k hk hne))⟩
      have E := Lib.hid (And.intro hs5 hg5)
      clear hs5 hg5 b5 hnx
      go_wp2_with fail
      go_roundw
      case rel => exact ⟨j + 1, q + 64, by have := HQ.out; omega, by omega, by go_num, E.out.1, E.out.2⟩
      case measure => simp [intOf]; omega
    · have hjn : j = nBl n := by omega
      have hqN : q = N := by have := HNE.out; rw [hq, hjn]; exact this
      have hq1 : ¬ (q : Int) < N := by omega
      rw [hjn] at hs
      have rs := hs.row
      have hb5 : Below (w.heap.size) w wr := by
        have h3 := A3.out.trans ((B1.out.trans (B3.out.mono B1.out.size)).mono (by omega))
        exact ⟨hg.os.trans h3.os, hg.tape.trans h3.tape, hg.output.trans h3.output, Nat.le_trans h3.size hg.size, fun k hk => (hg.block k (Nat.lt_of_lt_of_le hk h3.size) (by simp; omega)).trans (h3.block k hk)⟩
      have hrs : Arr wr w.heap.size 67 .u8 32 (fun _ => 0) := A1.out.of ((hg.block _ (by omega) (by simp)).trans ((B3.out.block _ (by omega)).trans (B1.out.block _ (by omega))))
      have hlt1 : w.heap.size + 1 < wr.heap.size := by omega
      have HS := Lib.hid hs
      have HB5 := Lib.hid hb5
      have HRS := Lib.hid hrs
      clear hs hg hq hqN hjn hb5 hrs
      go_wp2_with fail
      generalize hW6 : World.alloc wr _ = W6
      have A6 : Arr W6 wr.heap.size 67 .u8 32 (fun _ => 0) := by rw [← hW6]; exact arr_newB (by kernel_rfl)
      have B6 : Below wr.heap.size wr W6 := by rw [← hW6]; exact alloc_below _ _
      clear hW6
      have hbelH := fun k => hashB_ok (padI (xl l) n) (nBl n) k
      obtain ⟨hv, hhv⟩ : ∃ f, hashB (padI (xl l) n) (nBl n) = f := ⟨_, rfl⟩
      have hdig : ∀ i j, j < 4 → digI (xl l) n (4 * i + j) = hv i / 2 ^ (24 - 8 * j) % 256 := fun i j hj => by
        unfold digI
        rw [hhv, show (4 * i + j) / 4 = i by omega, show (4 * i + j) % 4 = j by omega]
      rw [hhv] at rs hbelH ⊢
      have HDIG := Lib.hid hdig
      have HU := Lib.hid hbelH
      have HW6 := Lib.hid A6
      have HB6 := Lib.hid B6
      clear hdig hbelH hhv rs
      obtain ⟨w7, hw7⟩ : ∃ y, y = wr := ⟨_, rfl⟩
      subst hw7
      go_loopw [30] (fun t wv => ∃ i : Nat, i ≤ 8 ∧ t = .int .i64 i ∧ Arr wv w7.heap.size 67 .u8 32 (partD (digI (xl l) n) (4 * i)) ∧ Below w7.heap.size w7 wv) (fun t _ => 8 - (intOf t).toNat)
      case atStart => exact ⟨0, by omega, rfl, A6.ext fun i _ => by unfold partD; rw [if_neg (by omega)], B6⟩
      case round =>
        obtain ⟨i, hi, rfl, Ai, Bi⟩ := hrel
        obtain ⟨wo, hwo⟩ : ∃ y, y = wr := ⟨_, rfl⟩
        subst hwo
        have hi0 : (0 : Int) ≤ i := by omega
        clear A6 B6
        by_cases hlt8 : i < 8
        · have hi1 : (i : Int) < 8 := by omega
          have hix := fun w => run_index_arr Tryd.underlying100 infoU32.1 infoU32.2 Tryd.underlying99 hv hlt8 w
          go_wp2_with fail
          go_loopw [10] (fun t wv => ∃ j : Nat, j ≤ 4 ∧ t = .int .i64 j ∧ Arr wv w7.heap.size 67 .u8 32 (partD (digI (xl l) n) (4 * i + j)) ∧ Below w7.heap.size w7 wv) (fun t _ => 4 - (intOf t).toNat)
          case atStart => exact ⟨0, by omega, rfl, Ai, Bi⟩
          case round =>
            obtain ⟨j, hj, rfl, Aj, Bj⟩ := hrel
            have hj0 : (0 : Int) ≤ j := by omega
            by_cases hlt4 : j < 4
            · have hj1 : (j : Int) < 4 := by omega
              have q1 := Aj.cell (i := 4 * i + j) (by omega)
              have z2 := Aj.frozen (4 * i + j)
              obtain ⟨v1, v2⟩ := HU.out i
              have hd := HDIG.out i j hlt4
              have e6 : (24 : Int) - 8 * j = ((24 - 8 * j : Nat) : Int) := by omega
              have B8 := Lib.hid (Bj.setCell (p := ⟨w7.heap.size, 4 * i + j, none⟩) (Nat.le_refl _) (.int .u8 (digI (xl l) n (4 * i + j))))
              have A8 := Aj.set (4 * i + j) (digI (xl l) n (4 * i + j))
              rw [partD_succ] at A8
              have A8 := Lib.hid A8
              generalize hv i = hx at *
              have HD := Lib.hid hd
              obtain ⟨z, hz⟩ : ∃ z, 24 - 8 * j = z := ⟨_, rfl⟩
              rw [hz] at e6 HD
              have hz1 : (z : Int) ≤ 24 := by omega
              obtain ⟨k, hk⟩ : ∃ k, 4 * i + j = k := ⟨_, rfl⟩
              rw [hk] at q1 z2 HD B8 A8
              have hk1 : (4 : Int) * i + j = k := by omega
              have hk2 : (k : Int) < 32 := by omega
              have HKK := Lib.hid hk
              clear Aj Bj hd Ai Bi hz hk
              go_wp2_with fail
              go_roundw
              case rel =>
                refine ⟨j + 1, by omega, by go_num, ?_, ?_⟩
                · have h1 := A8.out
                  rw [HD.out] at h1
                  rw [show 4 * i + (j + 1) = k + 1 by have := HKK.out; omega]
                  exact h1
                · have h1 := B8.out
                  rw [HD.out] at h1
                  exact h1
              case measure => simp [intOf]; omega
            · have hj4 : j = 4 := by omega
              have hj1 : ¬ (j : Int) < 4 := by omega
              have HA := Lib.hid Aj
              have HBj := Lib.hid Bj
              clear Aj Bj Ai Bi
              go_wp2_with fail
              go_roundw
              case rel => exact ⟨i + 1, by omega, by go_num, by rw [show 4 * (i + 1) = 4 * i + j by omega]; exact HA.out, HBj.out⟩
              case measure => simp [intOf]; omega
        · have hi8 : i = 8 := by omega
          have hi1 : ¬ (i : Int) < 8 := by omega
          have A9 := Ai.ext (f' := digI (xl l) n) fun k hk => by unfold partD; rw [if_pos (by omega)]
          have r9 := A9.row
          have hszD : SizeIs (arrK .u8 32 (digI (xl l) n)) 32 := arrK_size _ _ _
          have honD := arrK_ones .u8 32 (digI (xl l) n)
          have hrs9 : Arr wo w.heap.size 67 .u8 32 (fun _ => 0) := HRS.out.of (Bi.block _ (by omega))
          obtain ⟨pr1, pr2⟩ := putRow_later (cs := arrK .u8 32 (digI (xl l) n)) (Below.refl wo.heap.size wo) hrs9 (arrK_size .u8 32 fun _ => 0) hszD honD
          have hfin := Lib.hid (below_setRow (HB5.out.trans (Bi.mono HB5.out.size)) (Nat.le_refl w.heap.size) (arrK .u8 32 (digI (xl l) n)))
          clear Ai A9 Bi hrs9 hi8
          go_wp2_with fail
          refine bodyPost_ret (v := .agg (arrK .u8 32 (digI (xl l) n))) (by rw [results_cell1 Tryd.results50]; simp [go_sem, *]) rfl ?_
          exact ⟨rfl, hfin.out⟩
end Go.Proofs.YtldicnhpccionaaDoor
