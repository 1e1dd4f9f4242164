/-
The reference's frames of records.
-/
import Derived.Test.YtldicnhpccionaaDoorRfO
import Derived.Lib.ConvBytes
namespace Go.Proofs.YtldicnhpccionaaDoor
open Go.RowKit
set_option linter.unusedVariables false
set_option linter.unusedSimpArgs false
/-- a number's bytes, the highest first -/
def be8 (n : Nat) : List UInt8 := (List.range 8).map fun k => UInt8.ofNat (n / 2 ^ (8 * (7 - k)) % 256)
theorem be8_len (n : Nat) : (be8 n).length = 8 := by simp [be8]
theorem be8_drop {n : Nat} (h : n ≤ 100000) : (be8 n).drop 4 = len4 n := by
  have h8 : List.range 8 = [0, 1, 2, 3, 4, 5, 6, 7] := rfl
  unfold be8 len4
  rw [h8]
  simp only [List.map_cons, List.map_nil, List.drop_succ_cons, List.drop_zero]
  have e (k : Nat) : UInt8.ofNat (k % 256) = UInt8.ofNat k := by
    apply UInt8.toNat_inj.1; simp
  simp only [e, Nat.reduceSub, Nat.reduceMul, Nat.reducePow, Nat.div_one]
def numF (n i : Nat) : Nat → Int := fun k => if 8 - i ≤ k then ((n / 2 ^ (8 * (7 - k)) % 256 : Nat) : Int) else 0
theorem numF_succ (n i : Nat) (hi : i < 8) : upd (numF n i) (7 - i) ((n / 2 ^ (8 * i) % 256 : Nat) : Int) = numF n (i + 1) := by
  funext k
  unfold upd numF
  by_cases e : k = 7 - i
  · subst e
    rw [if_pos rfl, if_pos (by omega), show 7 - (7 - i) = i by omega]
  · rw [if_neg e]
    by_cases c : 8 - i ≤ k
    · rw [if_pos c, if_pos (by omega)]
    · rw [if_neg c, if_neg (by omega)]
theorem slice_arr8 (g : Nat) (w : World) : (Instr.sliceAt 98 (.pointer (some ⟨g, 0, none⟩)) none none none).run Tryd.prog w = .ok (.slice (some ⟨g, 0, none⟩) 8 8) w := by
  have hl : Tryd.prog.arrayLen 98 = 8 := by kernel_rfl
  have he : Tryd.prog.elem 98 = 5 := by kernel_rfl
  have ht : Tryd.prog.underlying 98 = some (.array (Tryd.prog.arrayLen 98) (Tryd.prog.elem 98)) := by rw [hl, he]; exact Tryd.underlying98
  obtain ⟨i0, hi, hz0, hz1, hz2⟩ := info_parts infoB
  have := run_sliceAt_array_all w 98 ⟨g, 0, none⟩ ht
  rw [this, hl, he]
  simp [sizeOf, typeInfo, hi, hz1, slicedAt, Addr.add]
set_option maxRecDepth 100000 in
set_option maxHeartbeats 1000000 in
theorem num_any (n : Nat) (w : World) (hn : n ≤ 100000) : Calls Tryd.prog 49 #[.int .i64 n] w fun e w' => e = .returned (.string (tx (be8 n))) ∧ Below w.heap.size w w' := by
  have hni : (n : Int) ≤ 100000 := by omega
  have hni0 : (0 : Int) ≤ n := by omega
  go_enter Tryd.func49, Tryd.ntmps49
  go_wp2_with fail
  generalize hW0 : World.alloc w _ = W0
  have A0 : Arr W0 w.heap.size 98 .u8 8 (fun _ => 0) := by rw [← hW0]; exact arr_newB (by kernel_rfl)
  have B0 : Below w.heap.size w W0 := by rw [← hW0]; exact alloc_below _ _
  clear hW0
  go_loopw [4] (fun t wr => ∃ i : Nat, i ≤ 8 ∧ t = .int .i64 i ∧ Arr wr w.heap.size 98 .u8 8 (numF n i) ∧ Below w.heap.size w wr) (fun t _ => 8 - (intOf t).toNat)
  case atStart => exact ⟨0, by omega, rfl, A0.ext fun i hi => by unfold numF; rw [if_neg (by omega)], B0⟩
  case round =>
    obtain ⟨i, hi, rfl, hA, hb⟩ := hrel
    have hi0 : (0 : Int) ≤ i := by omega
    clear A0 B0
    by_cases hlt : i < 8
    · have hi1 : (i : Int) < 8 := by omega
      have q := hA.cell (i := 7 - i) (by omega)
      have fz := hA.frozen (7 - i)
      have hset := hA.set (7 - i) ((n / 2 ^ (8 * i) % 256 : Nat) : Int)
      rw [numF_succ n i hlt] at hset
      have e7 : (7 : Int) - i = ((7 - i : Nat) : Int) := by omega
      obtain ⟨k, hk⟩ : ∃ k, 7 - i = k := ⟨_, rfl⟩
      rw [hk] at q fz hset e7
      have E := Lib.hid (And.intro hset (hb.setCell (p := ⟨w.heap.size, k, none⟩) (Nat.le_refl _) (.int .u8 ((n / 2 ^ (8 * i) % 256 : Nat) : Int))))
      have hk1 : (k : Int) < 8 := by omega
      clear hset hA hb hk
      go_wp2_with fail
      have hcast : ((n / 2 ^ (8 * i) % 256 : Nat) : Int) = (n : Int) / 2 ^ (8 * i) % 256 := by push_cast; rfl
      have E1 := E.out
      rw [hcast] at E1
      go_roundw
      case rel => exact ⟨i + 1, by omega, by go_num, E1.1, E1.2⟩
      case measure => simp [intOf]; omega
    · have hi8 : i = 8 := by omega
      have hi1 : ¬ (i : Int) < 8 := by omega
      have hsl := slice_arr8 w.heap.size
      have hA8 := hA.ext (f' := fun k => ((n / 2 ^ (8 * (7 - k)) % 256 : Nat) : Int)) fun k hk => by unfold numF; rw [if_pos (by omega)]
      have hbl : BL wr (some ⟨w.heap.size, 0, none⟩) (be8 n) := ⟨fun _ => ⟨w.heap.size, 0, rfl, hA8.lt, fun j u hu => by
        have hj : j < 8 := by have := (List.getElem?_eq_some_iff.1 hu).1; rw [bcs_len, be8_len] at this; exact this
        rw [Nat.zero_add, hA8.cell hj]
        unfold be8 bcs at hu
        rw [List.getElem?_map, List.getElem?_map, List.getElem?_range hj] at hu
        simp only [Option.map_some, Option.some.injEq] at hu
        rw [← hu]
        simp⟩⟩
      have hcv := conv_bytes hbl (fun h => by cases h) 8
      rw [be8_len] at hcv
      have hcv2 : (convert 25 9 (.slice (some ⟨w.heap.size, 0, none⟩) 8 8)).run Tryd.prog wr = .ok (.string (tx (be8 n))) wr := hcv
      obtain ⟨s, hs⟩ : ∃ s, tx (be8 n) = s := ⟨_, rfl⟩
      rw [hs] at hcv2
      have HSS := Lib.hid hs
      have E := Lib.hid hb
      clear hA hA8 hbl hcv hb hi8 hs
      go_wp2_with fail
      go_ret
      exact ⟨by rw [HSS.out]; rfl, E.out⟩
theorem ba_ext {a b : ByteArray} (h : a.data = b.data) : a = b := by cases a; cases b; simpa using h
theorem tx_app (a b : List UInt8) : tx a ++ tx b = tx (a ++ b) := by
  apply ba_ext
  rw [ByteArray.data_append]
  simp [tx]
theorem tx_part (l : List UInt8) (i j : Nat) : (tx l).extract i j = tx ((l.take j).drop i) := by
  apply ba_ext
  rw [ByteArray.data_extract]
  simp [tx, List.extract_eq_take_drop]
  try rw [List.drop_take]
theorem tx_size (l : List UInt8) : (tx l).size = l.length := rfl
set_option maxRecDepth 100000 in
theorem rtext_any (s : List UInt8) (w : World) (hn : s.length ≤ 100000) : Calls Tryd.prog 33 #[.string (tx s)] w fun e w' => e = .returned (.string (tx (textL s))) ∧ Below w.heap.size w w' := by
  have hnum := Lib.hid (num_any s.length w hn)
  obtain ⟨t, ht⟩ : ∃ t, tx s = t := ⟨_, rfl⟩
  have hsz : t.size = s.length := by rw [← ht]; rfl
  obtain ⟨m, hm⟩ : ∃ m, s.length = m := ⟨_, rfl⟩
  obtain ⟨u, hu⟩ : ∃ u, tx (be8 m) = u := ⟨_, rfl⟩
  have hus : u.size = 8 := by rw [← hu, tx_size, be8_len]
  obtain ⟨z, hz⟩ : ∃ z, u.extract 4 8 = z := ⟨_, rfl⟩
  have hzz : z = tx (len4 m) := by
    rw [← hz, ← hu, tx_part, ← be8_drop (by omega), List.take_of_length_le (by rw [be8_len]; omega)]
  have hzs : z.size = 4 := by rw [hzz]; rfl
  have hfin := Lib.hid (show z ++ t = tx (textL s) by rw [hzz, ← ht, tx_app]; unfold textL; rw [hm])
  rw [hm] at hsz hnum
  rw [hu] at hnum
  rw [ht]
  have hmi : (m : Int) ≤ 100000 := by omega
  clear hu hzz ht hm
  go_enter Tryd.func33, Tryd.ntmps33
  go_wp2_with fail
  refine hnum.out.mono ?_
  rintro e w1 ⟨rfl, b1⟩
  go_wp2_with fail
  go_ret
  rw [← hfin.out]
  exact ⟨rfl, b1⟩
theorem bytes_below (w : World) (e : TypeId) (s : ByteArray) : Below w.heap.size w (Lib.bytesWorld w e s) := by
  refine ⟨?_, ?_, ?_, by rw [Lib.bytesWorld_size]; omega, fun k hk => Lib.bytesWorld_at_old w e s k hk⟩ <;> (unfold Lib.bytesWorld World.freeze; split <;> rfl)
/-- a text's bytes, copied -/
theorem conv_str (w : World) (l : List UInt8) : ∃ cap, (convert 9 25 (.string (tx l))).run Tryd.prog w = .ok (.slice (some ⟨w.heap.size, 0, none⟩) l.length cap) (Lib.bytesWorld w 5 (tx l)) ∧ BL (Lib.bytesWorld w 5 (tx l)) (some ⟨w.heap.size, 0, none⟩) l := by
  refine ⟨_, Lib.run_convert_string_bytes w 9 25 5 (tx l) Tryd.underlying9 Tryd.underlying25 Tryd.underlying5, ⟨fun _ => ⟨w.heap.size, 0, rfl, by rw [Lib.bytesWorld_size]; omega, fun j u hu => ?_⟩⟩⟩
  have hj : j < l.length := by have := (List.getElem?_eq_some_iff.1 hu).1; rw [bcs_len] at this; exact this
  rw [Nat.zero_add, Lib.bytesWorld_cell w 5 (tx l) j hj]
  unfold bcs at hu
  rw [List.getElem?_map, List.getElem?_eq_getElem hj] at hu
  simp only [Option.map_some, Option.some.injEq] at hu
  rw [← hu]
  have : (tx l).data.toList.getD j 0 = l[j] := by
    unfold tx
    rw [List.getD_eq_getElem?_getD]
    simp [hj]
  rw [this]
theorem conv_str_at (w : World) (l : List UInt8) (g n : Nat) (hg : g = w.heap.size) (hn : l.length = n) : ∃ cap, (convert 9 25 (.string (tx l))).run Tryd.prog w = .ok (.slice (some ⟨g, 0, none⟩) n cap) (Lib.bytesWorld w 5 (tx l)) ∧ BL (Lib.bytesWorld w 5 (tx l)) (some ⟨g, 0, none⟩) l := by
  subst hg; subst hn; exact conv_str w l
set_option maxRecDepth 100000 in
theorem rdig_any (s : List UInt8) (w : World) (hn : s.length ≤ 100000) : Calls Tryd.prog 34 #[.string (tx s)] w fun e w' => e = .returned (.agg (arrK .u8 32 (digI (xl s) s.length))) ∧ Below w.heap.size w w' := by
  obtain ⟨m, hm⟩ : ∃ m, s.length = m := ⟨_, rfl⟩
  have b0 := alloc_below w (.cells #[.int .u8 0, .int .u8 0, .int .u8 0, .int .u8 0, .int .u8 0, .int .u8 0, .int .u8 0, .int .u8 0, .int .u8 0, .int .u8 0, .int .u8 0, .int .u8 0, .int .u8 0, .int .u8 0, .int .u8 0, .int .u8 0, .int .u8 0, .int .u8 0, .int .u8 0, .int .u8 0, .int .u8 0, .int .u8 0, .int .u8 0, .int .u8 0, .int .u8 0, .int .u8 0, .int .u8 0, .int .u8 0, .int .u8 0, .int .u8 0, .int .u8 0, .int .u8 0] 67)
  have a0 : Arr (w.alloc (.cells #[.int .u8 0, .int .u8 0, .int .u8 0, .int .u8 0, .int .u8 0, .int .u8 0, .int .u8 0, .int .u8 0, .int .u8 0, .int .u8 0, .int .u8 0, .int .u8 0, .int .u8 0, .int .u8 0, .int .u8 0, .int .u8 0, .int .u8 0, .int .u8 0, .int .u8 0, .int .u8 0, .int .u8 0, .int .u8 0, .int .u8 0, .int .u8 0, .int .u8 0, .int .u8 0, .int .u8 0, .int .u8 0, .int .u8 0, .int .u8 0, .int .u8 0, .int .u8 0] 67)) w.heap.size 67 .u8 32 (fun _ => 0) := arr_newB (by kernel_rfl)
  have hs0 : (w.alloc (.cells #[.int .u8 0, .int .u8 0, .int .u8 0, .int .u8 0, .int .u8 0, .int .u8 0, .int .u8 0, .int .u8 0, .int .u8 0, .int .u8 0, .int .u8 0, .int .u8 0, .int .u8 0, .int .u8 0, .int .u8 0, .int .u8 0, .int .u8 0, .int .u8 0, .int .u8 0, .int .u8 0, .int .u8 0, .int .u8 0, .int .u8 0, .int .u8 0, .int .u8 0, .int .u8 0, .int .u8 0, .int .u8 0, .int .u8 0, .int .u8 0, .int .u8 0, .int .u8 0] 67)).heap.size = w.heap.size + 1 := by simp
  obtain ⟨cap, hcv, hbl⟩ := conv_str_at (w.alloc (.cells #[.int .u8 0, .int .u8 0, .int .u8 0, .int .u8 0, .int .u8 0, .int .u8 0, .int .u8 0, .int .u8 0, .int .u8 0, .int .u8 0, .int .u8 0, .int .u8 0, .int .u8 0, .int .u8 0, .int .u8 0, .int .u8 0, .int .u8 0, .int .u8 0, .int .u8 0, .int .u8 0, .int .u8 0, .int .u8 0, .int .u8 0, .int .u8 0, .int .u8 0, .int .u8 0, .int .u8 0, .int .u8 0, .int .u8 0, .int .u8 0, .int .u8 0, .int .u8 0] 67)) s (w.heap.size + 1) m (by simp) hm
  have b1 := bytes_below (w.alloc (.cells #[.int .u8 0, .int .u8 0, .int .u8 0, .int .u8 0, .int .u8 0, .int .u8 0, .int .u8 0, .int .u8 0, .int .u8 0, .int .u8 0, .int .u8 0, .int .u8 0, .int .u8 0, .int .u8 0, .int .u8 0, .int .u8 0, .int .u8 0, .int .u8 0, .int .u8 0, .int .u8 0, .int .u8 0, .int .u8 0, .int .u8 0, .int .u8 0, .int .u8 0, .int .u8 0, .int .u8 0, .int .u8 0, .int .u8 0, .int .u8 0, .int .u8 0, .int .u8 0] 67)) 5 (tx s)
  have hof := Lib.hid (rfOf_any _ m cap s _ hbl hm (fun h => by cases h) (by omega))
  have a1 : Arr (Lib.bytesWorld (w.alloc (.cells #[.int .u8 0, .int .u8 0, .int .u8 0, .int .u8 0, .int .u8 0, .int .u8 0, .int .u8 0, .int .u8 0, .int .u8 0, .int .u8 0, .int .u8 0, .int .u8 0, .int .u8 0, .int .u8 0, .int .u8 0, .int .u8 0, .int .u8 0, .int .u8 0, .int .u8 0, .int .u8 0, .int .u8 0, .int .u8 0, .int .u8 0, .int .u8 0, .int .u8 0, .int .u8 0, .int .u8 0, .int .u8 0, .int .u8 0, .int .u8 0, .int .u8 0, .int .u8 0] 67)) 5 (tx s)) w.heap.size 67 .u8 32 (fun _ => 0) := a0.of (b1.block _ (by omega))
  have b01 := Lib.hid (b0.trans (b1.mono b0.size))
  have A1 := Lib.hid a1
  rw [hm]
  generalize hD : digI (xl s) m = D at hof
  clear b0 b1 a0 a1 hbl hm hs0
  go_enter Tryd.func34, Tryd.ntmps34
  go_wp2_with fail
  refine hof.out.mono ?_
  rintro e w2 ⟨rfl, b2⟩
  obtain ⟨pr1, pr2⟩ := putRow_later (cs := arrK .u8 32 D) b2 A1.out (arrK_size .u8 32 fun _ => 0) (arrK_size .u8 32 D) (arrK_ones .u8 32 D)
  have hfin := Lib.hid (below_setRow (b01.out.trans (b2.mono b01.out.size)) (Nat.le_refl w.heap.size) (arrK .u8 32 D))
  clear b2 hof hcv
  go_wp2_with fail
  refine bodyPost_ret (v := .agg (arrK .u8 32 D)) (by rw [results_cell1 Tryd.results34]; simp [go_sem, *]) rfl ?_
  exact ⟨rfl, hfin.out⟩
set_option maxRecDepth 100000 in
/-- the reference's frame of a record -/
theorem rframe_any (s : List UInt8) (w : World) (hn : s.length ≤ 99000) : Calls Tryd.prog 12 #[.string (tx s)] w fun e w' => e = .returned (.string (tx (frameL s))) ∧ Below w.heap.size w w' := by
  have htx := Lib.hid (rtext_any s w (by omega))
  have htl := textL_len s
  obtain ⟨t, ht⟩ : ∃ t, textL s = t := ⟨_, rfl⟩
  have hfr : frameL s = dig8 t ++ t := by unfold frameL; rw [ht]
  rw [ht] at htl htx
  rw [hfr]
  have hdg := Lib.hid (fun w' => rdig_any t w' (by omega))
  obtain ⟨m, hm⟩ : ∃ m, t.length = m := ⟨_, rfl⟩
  rw [hm] at htl hdg
  generalize hD : digI (xl t) m = D at hdg
  have hszD : SizeIs (arrK .u8 32 D) 32 := arrK_size _ _ _
  have honD := arrK_ones .u8 32 D
  go_enter Tryd.func12, Tryd.ntmps12
  go_wp2_with fail
  refine htx.out.mono ?_
  rintro e w1 ⟨rfl, b1⟩
  go_wp2_with fail
  refine (hdg.out w1).mono ?_
  rintro e w2 ⟨rfl, b2⟩
  have b3 := alloc_below w2 (.cells (arrK .u8 32 D) 67)
  have hsl8 := slice_dig8 w2.heap.size
  have A3 : Arr (w2.alloc (.cells (arrK .u8 32 D) 67)) w2.heap.size 67 .u8 32 D := heap_alloc_new _ _
  have bl3 : BL (w2.alloc (.cells (arrK .u8 32 D) 67)) (some ⟨w2.heap.size, 0, none⟩) (dig8 t) := ⟨fun _ => ⟨w2.heap.size, 0, rfl, A3.lt, fun j u hu => by
    rw [dig8_cells, hm, hD, bytesL_get] at hu
    split at hu
    · rename_i hj
      obtain rfl := Option.some.inj hu
      rw [Nat.zero_add]
      exact A3.cell (by omega)
    · cases hu⟩⟩
  have hcv := conv_bytes bl3 (fun h => by cases h) 32
  rw [dig8_len] at hcv
  replace hcv : (convert 25 9 (.slice (some ⟨w2.heap.size, 0, none⟩) 8 32)).run Tryd.prog (w2.alloc (.cells (arrK .u8 32 D) 67)) = .ok (.string (tx (dig8 t))) (w2.alloc (.cells (arrK .u8 32 D) 67)) := hcv
  have hs1 : (tx (dig8 t)).size = 8 := by rw [tx_size, dig8_len]
  have hs2 : (tx t).size = m := by rw [tx_size, hm]
  have happ := Lib.hid (tx_app (dig8 t) t)
  have hmi : (m : Int) ≤ 100000 := by omega
  have HB := Lib.hid ((b1.trans (b2.mono b1.size)).trans (b3.mono (b1.trans (b2.mono b1.size)).size))
  generalize tx (dig8 t) = s1 at hcv hs1 happ
  generalize tx t = s2 at hs2 happ ⊢
  clear bl3 A3 b1 b2 b3 htx hdg hD hm ht htl hfr
  go_wp2_with fail
  go_ret
  exact ⟨by rw [← happ.out]; rfl, HB.out⟩
theorem getD_tx {ls : List (List UInt8)} {k : Nat} (h : k < ls.length) : (ls.map tx).getD k ByteArray.empty = tx (ls.getD k []) := by
  rw [List.getD_eq_getElem?_getD, List.getD_eq_getElem?_getD, List.getElem?_map, List.getElem?_eq_getElem h]; rfl
set_option maxRecDepth 100000 in
set_option maxHeartbeats 1000000 in
/-- the reference's frames, one behind the other -/
theorem rframes_any {P : Nat → Prop} (v : Value) (ls : List (List UInt8)) (w : World) (hT : Strs P w v (ls.map tx)) (hn : (framesL ls).length ≤ 99000) : Calls Tryd.prog 10 #[v] w fun e w' => e = .returned (.string (tx (framesL ls))) ∧ Below w.heap.size w w' := by
  obtain ⟨A, cap, rfl, hel⟩ := hT.ex
  obtain ⟨n, hn'⟩ : ∃ n, ls.length = n := ⟨_, rfl⟩
  have hcnt := cnt_le_frames ls
  have hni : (n : Int) ≤ 100000 := by omega
  have hni0 : (0 : Int) ≤ n := by omega
  have HEL := Lib.hid hel
  have HN := Lib.hid hn'
  have HT := Lib.hid hn
  have hlm : (ls.map tx).length = n := by rw [List.length_map, hn']
  rw [hlm]
  have HLM := Lib.hid hlm
  clear hT hel hn' hn hcnt hlm
  go_enter Tryd.func10, Tryd.ntmps10
  go_wp2_with fail
  go_loopw [3, 8] (fun s t wr => ∃ k : Nat, k ≤ n ∧ t = .int .i64 k ∧ s = .string (tx (framesL (ls.take k))) ∧ Below w.heap.size w wr) (fun _ t _ => n - (intOf t).toNat)
  case atStart => exact ⟨0, Nat.zero_le _, rfl, rfl, Below.refl _ _⟩
  case round =>
    obtain ⟨k, hk, rfl, rfl, hb⟩ := hrel
    have hk0 : (0 : Int) ≤ k := by omega
    by_cases hlt : k < n
    · obtain ⟨g, o, rfl, hg, hP, hel⟩ := HEL.out (by rw [HLM.out]; omega)
      have hlk : k < ls.length := by have := HN.out; omega
      have hc := hel k (by rw [HLM.out]; exact hlt)
      rw [getD_tx hlk] at hc
      have hmem : ls.getD k [] ∈ ls := by rw [List.getD_eq_getElem?_getD, List.getElem?_eq_getElem hlk]; exact List.getElem_mem hlk
      have htk := framesL_take hlk
      have hle := frames_le (ls := ls) (k + 1)
      have hll := len_le_frames hmem
      have hfr := Lib.hid (rframe_any (ls.getD k []) wr (by have := HT.out; omega))
      generalize ls.getD k [] = l at hc hfr htk hll
      have happ := tx_app (framesL (ls.take k)) (frameL l)
      rw [← htk] at happ
      have hs1 : (tx (framesL (ls.take k))).size = (framesL (ls.take k)).length := rfl
      have hs2 : (tx (frameL l)).size = (frameL l).length := rfl
      rw [htk, List.length_append] at hle
      obtain ⟨z1, hz1⟩ : ∃ z, (framesL (ls.take k)).length = z := ⟨_, rfl⟩
      obtain ⟨z2, hz2⟩ : ∃ z, (frameL l).length = z := ⟨_, rfl⟩
      rw [hz1] at hs1 hle
      rw [hz2] at hs2 hle
      have hz3 : (z1 : Int) + z2 ≤ 100000 := by have := HT.out; omega
      have hk1 : (k : Int) < n := by omega
      have hcr : wr.cell? ⟨g, o + k, none⟩ = some (.string (tx l)) := (hb.cell (p := ⟨g, o + k, none⟩) hg).trans hc
      have HAPP := Lib.hid happ
      have HB := Lib.hid hb
      generalize tx (framesL (ls.take k)) = s1 at hs1 HAPP ⊢
      generalize tx (frameL l) = s2 at hs2 HAPP hfr
      generalize tx l = s3 at hcr hfr
      clear hc htk hle hll hmem happ hel hP hg hb hz1 hz2
      go_wp2_with fail
      refine hfr.out.mono ?_
      rintro e w2 ⟨rfl, b2⟩
      have E := Lib.hid (HB.out.trans (b2.mono HB.out.size))
      clear b2 hfr hcr
      go_wp2_with fail
      go_roundw
      case rel => exact ⟨k + 1, by omega, by go_num, by rw [HAPP.out], E.out⟩
      case measure => simp [intOf]; omega
    · have hkn : k = n := by omega
      rw [show ls.take k = ls by rw [hkn, ← HN.out, List.take_length]]
      have E := Lib.hid hb
      have hk1 : ¬ (k : Int) < n := by omega
      obtain ⟨s1, hs1⟩ : ∃ s, tx (framesL ls) = s := ⟨_, rfl⟩
      rw [hs1]
      have HS := Lib.hid hs1
      clear hb hs1 hkn
      go_wp2_with fail
      go_ret
      exact ⟨by rw [HS.out]; rfl, E.out⟩
end Go.Proofs.YtldicnhpccionaaDoor
