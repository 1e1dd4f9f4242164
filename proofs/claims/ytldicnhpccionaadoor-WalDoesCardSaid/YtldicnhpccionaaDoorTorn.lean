/-
WalTorn: a byte of a record is turned.
-/
import Derived.Test.YtldicnhpccionaaDoorRs
import Derived.Deep.RegionHeld3
namespace Go.Proofs.YtldicnhpccionaaDoor
open Go.RowKit
set_option linter.unusedVariables false
set_option linter.unusedSimpArgs false
theorem Lst.take {P : Nat → Prop} {w : World} {A : Option Addr} {n cap : Nat} {ls : List (List UInt8)} (h : Lst P w (.slice A n cap) ls) {k : Nat} (hk : k ≤ ls.length) : Lst P w (.slice A k cap) (ls.take k) := by
  obtain ⟨A', cap', e, hc, hel⟩ := h.ex
  obtain ⟨rfl, -, rfl⟩ := Value.slice.inj e
  have hl : (ls.take k).length = k := by rw [List.length_take]; omega
  refine ⟨⟨A, cap, by rw [hl], by omega, fun h0 => ?_⟩⟩
  rw [hl] at h0
  obtain ⟨g, o, hA, hg, hP, he⟩ := hel (by omega)
  refine ⟨g, o, hA, hg, hP, fun i hi => ?_⟩
  rw [hl] at hi
  have := he i (by omega)
  have e2 : (ls.take k).getD i [] = ls.getD i [] := by rw [List.getD_eq_getElem?_getD, List.getD_eq_getElem?_getD, List.getElem?_take, if_pos hi]
  rw [e2]; exact this
theorem recs_count {l : List UInt8} {o : List (List UInt8)} {m : Nat} (h : Recs l o m) : o.length ≤ m := by
  induction h with
  | none _ => exact Nat.le_refl _
  | some h t ih => rw [List.length_cons]; omega
theorem torn_plain {ls : List (List UInt8)} {at' k : Nat} {u : UInt8} (hk : k ≤ ls.length) (hs : (framesL (ls.take k)).length ≤ at') (hl : ∀ l ∈ ls, l.length ≤ 100000) {outs : List (List UInt8)} {m : Nat} (hr : Recs ((framesL ls).set at' u) outs m) : k ≤ outs.length ∧ outs.take k = ls.take k := by
  have e : framesL ls = framesL (ls.take k) ++ framesL (ls.drop k) := by unfold framesL; rw [← List.flatMap_append, List.take_append_drop]
  rw [e, List.set_append_right _ _ hs] at hr
  obtain ⟨o, m2, h2⟩ := Recs.ex ((framesL (ls.drop k)).set (at' - (framesL (ls.take k)).length) u)
  obtain ⟨rfl, -⟩ := hr.det (recs_frames (fun l h => hl l (List.mem_of_mem_take h)) h2)
  have hlen : (ls.take k).length = k := by rw [List.length_take]; omega
  refine ⟨by rw [List.length_append, hlen]; omega, List.take_left' hlen⟩
/-- the byte of a converted text is written -/
theorem bytes_set (w : World) (l : List UInt8) (at' : Nat) (v : Int) (hat : at' < l.length) (h0 : 0 ≤ v) (h1 : v < 256) :
    (Lib.bytesWorld w 5 (tx l)).cell? ⟨w.heap.size, at', none⟩ = some (.int .u8 ((l.getD at' 0).toNat : Int)) ∧
    (Lib.bytesWorld w 5 (tx l)).frozen? ⟨w.heap.size, at', none⟩ = false ∧
    BL ((Lib.bytesWorld w 5 (tx l)).setCell ⟨w.heap.size, at', none⟩ (.int .u8 v)) (some ⟨w.heap.size, 0, none⟩) (l.set at' (UInt8.ofNat v.toNat)) ∧
    Below w.heap.size w ((Lib.bytesWorld w 5 (tx l)).setCell ⟨w.heap.size, at', none⟩ (.int .u8 v)) := by
  have hcell : ∀ j, j < l.length → (Lib.bytesWorld w 5 (tx l)).cell? ⟨w.heap.size, j, none⟩ = some (.int .u8 ((l.getD j 0).toNat : Int)) := fun j hj => by
    rw [Lib.bytesWorld_cell w 5 (tx l) j hj]
    have : (tx l).data.toList.getD j 0 = l.getD j 0 := by unfold tx; simp
    rw [this]
  have hsz : l.length ≤ (Lib.bytesCells w 5 (tx l)).size := by
    unfold Lib.bytesCells
    rw [Array.size_append, Array.size_map]
    show l.length ≤ (tx l).data.size + _
    have : (tx l).data.size = l.length := by unfold tx; simp
    omega
  refine ⟨hcell _ hat, ?_, ⟨fun _ => ⟨w.heap.size, 0, rfl, ?_, fun j u hu => ?_⟩⟩, ?_⟩
  · unfold World.frozen?
    simp only [Lib.bytesWorld_at_new]
    simp
    omega
  · simp [World.setCell, Lib.bytesWorld_size]
  · have hj : j < l.length := by have := (List.getElem?_eq_some_iff.1 hu).1; rw [bcs_len, List.length_set] at this; exact this
    rw [Nat.zero_add]
    unfold bcs at hu
    rw [List.getElem?_map, List.getElem?_set] at hu
    by_cases c : at' = j
    · subst c
      rw [if_pos rfl, if_pos hj] at hu
      simp only [Option.map_some, Option.some.injEq] at hu
      have hv : ((UInt8.ofNat v.toNat).toNat : Int) = v := by
        rw [UInt8.toNat_ofNat', Nat.mod_eq_of_lt (by show v.toNat < 256; omega)]
        omega
      rw [hv] at hu
      rw [← hu]
      simp [World.setCell, World.cell?, Lib.bytesWorld_at_new, Array.getElem?_modify]
      have hat2 : at' < (Lib.bytesCells w 5 (tx l)).size := by omega
      simp [Array.getElem?_setIfInBounds, hat2]
    · rw [if_neg c, List.getElem?_eq_getElem hj] at hu
      simp only [Option.map_some, Option.some.injEq] at hu
      rw [← hu]
      have h2 := hcell j hj
      rw [List.getD_eq_getElem?_getD, List.getElem?_eq_getElem hj, Option.getD_some] at h2
      rw [← h2]
      simp [World.setCell, World.cell?, Lib.bytesWorld_at_new, Array.getElem?_modify, Array.getElem?_setIfInBounds, c]
  · have b1 := bytes_below w 5 (tx l)
    refine ⟨b1.os, b1.tape, b1.output, by simp [World.setCell]; exact b1.size, fun k hk => ?_⟩
    rw [← b1.block k hk]
    exact Below.heap_setCell _ _ _ _ (by show k ≠ w.heap.size; omega)
set_option maxRecDepth 100000 in
set_option maxHeartbeats 4000000 in
theorem torn_walk (W : World) (v : Value) (ls : List (List UInt8)) (at' c : Int) (htab : Tab W) (h0 : 0 < W.heap.size) (hL : Lst (fun i => i < W.heap.size) W v ls) (hls : ls.length ≤ 140737488355328) (hll : ∀ l ∈ ls, l.length ≤ 140737488355328) (hc0 : 0 ≤ c) (hc1 : c < 256) :
    Calls Tryd.prog 3 #[v, .int .i64 at', .int .u8 c] W fun e w' => e = .returned (.bool true) ∧ Below W.heap.size W w' := by
  obtain ⟨A, cap, rfl, hcap, hel⟩ := hL.ex
  have HT := Lib.hid htab
  have hal := Lib.hid (alive_any W htab h0)
  have HLS := Lib.hid hL
  have HEL := Lib.hid hel
  have HLL := Lib.hid (And.intro hls hll)
  clear htab hL hcap hel hll hls
  go_enter Tryd.func3, Tryd.ntmps3
  go_wp2_with fail
  refine hal.out.mono ?_
  rintro e w1 ⟨rfl, hb1⟩
  have HB1 := Lib.hid hb1
  clear hal hb1
  go_wp2_with fail
  have hbw := HB1.out
  have hgr := Lib.hid (great_any _ _ _ (calls_one (HLS.out.below hbw)) (by simp) (fun c hc => by
    simp only [List.mem_cons, List.not_mem_nil, or_false] at hc
    rcases hc with rfl
    exact ⟨by simp, HLL.out.1, HLL.out.2⟩))
  clear hbw
  refine hgr.out.mono ?_
  rintro e w2 ⟨b, rfl, hb2, hsm⟩
  have HB2 := Lib.hid (HB1.out.trans (((alloc_below w1 _).trans (hb2.mono (by simp))).mono HB1.out.size))
  have HSM := Lib.hid hsm
  clear hgr hb2 hsm
  cases b with
  | true =>
    go_wp2_with fail
    go_ret
    exact ⟨rfl, HB2.out⟩
  | false =>
    have hs := HSM.out rfl
    obtain ⟨-, hs1, hs2⟩ := hs
    have hls20 : ls.length ≤ 20 := hs2 ⟨0, 0, 0, ls, []⟩ (by simp)
    have htot : (framesL ls).length ≤ 9000 := (small_one hs1 hls20).1
    have HLE := Lib.hid (small_one hs1 hls20).2
    have HTOT := Lib.hid htot
    have HN20 := Lib.hid hls20
    clear hs1 hs2 HSM HLL
    by_cases hcz : c = 0
    · subst hcz
      go_wp2_with fail
      go_ret
      exact ⟨rfl, HB2.out⟩
    · have htx := Lib.hid (texts_any _ _ w2 (HLS.out.below HB2.out) (by omega))
      go_wp2_with fail
      refine htx.out.mono ?_
      rintro e w3 ⟨vt, rfl, ot, b3⟩
      have hfr := Lib.hid (rframes_any vt ls w3 ot.strs (by omega))
      have HB3 := Lib.hid (HB2.out.trans (b3.mono HB2.out.size))
      clear htx ot b3 HB2
      go_wp2_with fail
      refine hfr.out.mono ?_
      rintro e w4 ⟨rfl, b4⟩
      have HB4 := Lib.hid (HB3.out.trans (b4.mono HB3.out.size))
      clear hfr b4 HB3
      obtain ⟨z, hz⟩ : ∃ z, (framesL ls).length = z := ⟨_, rfl⟩
      have hsz : (tx (framesL ls)).size = z := hz
      have HZ := Lib.hid hz
      have hz1 : (z : Int) ≤ 9000 := by omega
      have hz0 : (0 : Int) ≤ z := by omega
      by_cases hin : 0 ≤ at' ∧ at' < z
      · obtain ⟨a, rfl⟩ : ∃ a : Nat, at' = a := ⟨at'.toNat, by omega⟩
        have ha0 : ¬ (a : Int) < 0 := by omega
        have ha1 : (a : Int) < z := hin.2
        have ha2 : ¬ (z : Int) ≤ a := by omega
        have ha3 : decide (z ≤ a) = false := by simp; omega
        have ha4 : decide ((a : Int) < 0) = false := by simp
        obtain ⟨cp, hcv, -⟩ := conv_str_at w4 (framesL ls) w4.heap.size z rfl hz
        have hx0 := bits_lo_u8 BinOp.xor ((framesL ls).getD a 0).toNat c
        have hx1 := bits_hi_u8 BinOp.xor ((framesL ls).getD a 0).toNat c
        obtain ⟨hce, hfz, hbl, hbb⟩ := bytes_set w4 (framesL ls) a (bits BinOp.xor .u8 ((framesL ls).getD a 0).toNat c) (by omega) hx0 (by omega)
        obtain ⟨X, hX⟩ : ∃ X, (framesL ls).getD a 0 = X := ⟨_, rfl⟩
        rw [hX] at hce hbl hbb
        have HBL := Lib.hid hbl
        have HBB := Lib.hid (HB4.out.trans (hbb.mono HB4.out.size))
        obtain ⟨s, hs⟩ : ∃ s, tx (framesL ls) = s := ⟨_, rfl⟩
        rw [hs] at hsz hcv hce hfz HBL HBB ⊢
        obtain ⟨n, hn⟩ : ∃ n, ls.length = n := ⟨_, rfl⟩
        have HN := Lib.hid hn
        have hni : (n : Int) ≤ 20 := by omega
        have hni0 : (0 : Int) ≤ n := by omega
        rw [hn]
        obtain ⟨bl, hbll⟩ : ∃ x, (framesL ls).set a (UInt8.ofNat (bits BinOp.xor .u8 X.toNat c).toNat) = x := ⟨_, rfl⟩
        have HBLL := Lib.hid hbll
        have HBZ := Lib.hid (show bl.length = z by rw [← hbll, List.length_set, hz])
        rw [hbll] at HBL
        have hg5 : w4.heap.size < ((Lib.bytesWorld w4 5 s).setCell ⟨w4.heap.size, a, none⟩ (.int .u8 (bits BinOp.xor .u8 X.toNat c))).heap.size := by simp [World.setCell, Lib.bytesWorld_size]
        have HG5 := Lib.hid hg5
        clear hbl hbb hX hx0 hx1 hz hs htot hin hn hg5 hbll
        go_wp2_with fail
        have HA := Lib.hid ha1
        clear hcv hce hfz ha0 ha1 ha2 ha3 ha4
        generalize (Lib.bytesWorld w4 5 s).setCell ⟨w4.heap.size, a, none⟩ (.int .u8 (bits BinOp.xor .u8 X.toNat c)) = w5 at *
        obtain ⟨g5, hg5⟩ : ∃ g, w4.heap.size = g := ⟨_, rfl⟩
        rw [hg5] at HBL HG5 ⊢
        clear hg5
        go_loopw [9, 10] (fun t u wr => ∃ k : Nat, k ≤ n ∧ t = .int .i64 k ∧ u = .int .i64 (framesL (ls.take k)).length ∧ (framesL (ls.take k)).length ≤ a ∧ Below w5.heap.size w5 wr) (fun t _ _ => n - (intOf t).toNat)
        case atStart => exact ⟨0, Nat.zero_le _, rfl, by simp [framesL], by simp [framesL], Below.refl _ _⟩
        case round =>
          obtain ⟨k, hk, rfl, rfl, hka, hb⟩ := hrel
          have hk0 : (0 : Int) ≤ k := by omega
          by_cases hlt : k < n
          · obtain ⟨g, o, rfl, hg, hP, hel⟩ := HEL.out (by have := HN.out; omega)
            have hlk : k < ls.length := by have := HN.out; omega
            obtain ⟨Ak, ck, hc, hbl, hA, -⟩ := (hel k hlk).ex
            have htk := framesL_take hlk
            have hle := frames_le (ls := ls) (k + 1)
            rw [htk, List.length_append] at hle
            have hbw := HBB.out.trans (hb.mono HBB.out.size)
            have hfr := rframe_any (ls.getD k []) wr (by have := HLE.out (ls.getD k []) (by rw [List.getD_eq_getElem?_getD, List.getElem?_eq_getElem hlk]; exact List.getElem_mem hlk); have := len_le_frames (ls := ls) (l := ls.getD k []) (by rw [List.getD_eq_getElem?_getD, List.getElem?_eq_getElem hlk]; exact List.getElem_mem hlk); have := HTOT.out; omega)
            have hcr : wr.cell? ⟨g, o + k, none⟩ = some (.slice Ak (ls.getD k []).length ck) := (hbw.cell (p := ⟨g, o + k, none⟩) hg).trans hc
            have hcv := conv_bytes (hbl.below hbw) (fun e => (hA e).2) ck
            have hs2 : (tx (frameL (ls.getD k []))).size = (frameL (ls.getD k [])).length := rfl
            obtain ⟨q, hq⟩ : ∃ q, (ls.getD k []).length = q := ⟨_, rfl⟩
            rw [hq] at hcr hcv
            replace hcv : (convert 25 9 (.slice Ak q ck)).run Tryd.prog wr = .ok (.string (tx (ls.getD k []))) wr := hcv
            obtain ⟨y, hy⟩ : ∃ y, (framesL (ls.take k)).length = y := ⟨_, rfl⟩
            obtain ⟨y2, hy2⟩ : ∃ y, (frameL (ls.getD k [])).length = y := ⟨_, rfl⟩
            obtain ⟨t1, ht1⟩ : ∃ y, tx (ls.getD k []) = y := ⟨_, rfl⟩
            obtain ⟨t2, ht2⟩ : ∃ y, tx (frameL (ls.getD k [])) = y := ⟨_, rfl⟩
            have hstep : (framesL (ls.take (k + 1))).length = y + y2 := by rw [htk, List.length_append, hy, hy2]
            have HSTEP := Lib.hid hstep
            have HKA := Lib.hid hka
            have HB := Lib.hid hb
            rw [hy2] at hs2 hle
            rw [hy] at hka hle ⊢
            rw [ht1] at hfr hcv
            rw [ht2] at hs2 hfr
            have hy3 : (y : Int) + y2 ≤ 9000 := by have := HTOT.out; omega
            have hk1 : (k : Int) < n := by omega
            have HFR := Lib.hid hfr
            clear hc hbl hA htk hle hel hP hbw hq hy hy2 ht1 ht2 hstep hfr hb
            go_wp2_with fail
            refine HFR.out.mono ?_
            rintro e w6 ⟨rfl, b6⟩
            have HB6 := Lib.hid (HB.out.trans (b6.mono HB.out.size))
            clear b6 HFR
            by_cases hbig : a < y + y2
            · have hb1 : (a : Int) < y + y2 := by omega
              have hnew := Lib.hid (new_any w6)
              go_wp2_with fail
              refine hnew.out.mono ?_
              rintro e w7 ⟨db, rfl, hdb, d7, b7⟩
              have L7 : Law w6 db (fun i => w6.heap.size ≤ i) newP w7 := ⟨d7, fun i h => h, b7⟩
              have HW6 := Lib.hid (HBB.out.trans (HB6.out.mono HBB.out.size))
              have HT6 := Lib.hid (HT.out.below HW6.out h0)
              have hw6 : 0 < w6.heap.size := Nat.lt_of_lt_of_le h0 HW6.out.size
              have hg6 : g5 < w6.heap.size := Nat.lt_of_lt_of_le HG5.out HB6.out.size
              have hap := append_any nmLog (some ⟨g5, 0, none⟩) z cp bl w7 L7.dk (newP_fit.ok (by omega) (by omega) (by omega)) (by decide) (HBL.out.below (HB6.out.trans (b7.mono HB6.out.size))) HBZ.out (fun h => (by cases h)) (fun g o e _ c => by
                have e1 := Option.some.inj e
                have e2 : g5 = g := congrArg Addr.block e1
                omega) (by show sumC [] + z ≤ 1000000; simp [sumC]; omega)
              have HAP := Lib.hid (hap.mono fun e w h => (show e = .returned (.int .i64 (appendP newP nmLog bl).2) ∧ Law w6 db (orNew (fun i => w6.heap.size ≤ i) w7) (appendP newP nmLog bl).1 w from ⟨h.1, L7.step h.2.1 h.2.2⟩))
              obtain ⟨k0, k1, k2, k3, -⟩ := append_zero nmLog bl newP rfl rfl
              have ft8 := newP_fit.append nmLog bl L7.dk.nd
              rw [show whole nmLog newP = [] from rfl, List.nil_append] at k3
              rw [k0] at HAP
              rw [HBZ.out] at ft8
              generalize (appendP newP nmLog bl).1 = p8 at HAP k1 k2 k3 ft8
              clear hnew d7 b7 L7 hap k0
              go_wp2_with fail
              refine HAP.out.mono ?_
              rintro e w8 ⟨rfl, L8⟩
              have hop := Lib.hid (open_law nmLog L8 ft8 (by omega) (by omega) (by omega) (by decide) HT6.out hw6 k1 (by rw [k2]; decide) (by rw [k2]; decide))
              have HK3 := Lib.hid k3
              clear HAP L8 ft8 k1 k2 k3
              go_wp2_with fail
              refine hop.out.mono ?_
              rintro e w9 ⟨outs, m9, F9, p9, lb9, vo9, rfl, L9, -, hls9, hr9, -, -, -, -, -, -, -⟩
              rw [HK3.out] at hr9
              have hB69 := L9.bel
              have hcv9 := conv_bytes (HBL.out.below (HB6.out.trans (hB69.mono HB6.out.size))) (fun h => by cases h) cp
              have hrs := rsplit_any bl w9 (by rw [HBZ.out]; omega)
              rw [HBZ.out] at hcv9
              replace hcv9 : (convert 25 9 (.slice (some ⟨g5, 0, none⟩) z cp)).run Tryd.prog w9 = .ok (.string (tx bl)) w9 := hcv9
              obtain ⟨tb, htb⟩ : ∃ t, tx bl = t := ⟨_, rfl⟩
              rw [htb] at hcv9 hrs
              have HRS := Lib.hid hrs
              have HL9 := Lib.hid (And.intro hls9 (And.intro hr9 hB69))
              clear hop L9 hls9 hr9 hrs hB69 htb
              go_wp2_with fail
              refine HRS.out.mono ?_
              rintro e w10 ⟨vw, outs2, m10, rfl, hr10, ot10, b10⟩
              obtain ⟨rfl, rfl⟩ := HL9.out.2.1.det hr10
              obtain ⟨hko, htk⟩ := torn_plain (k := k) (by have := HN.out; omega) (by have := HKA.out; exact this) HLE.out (HBLL.out ▸ hr10)
              have hoN : outs.length ≤ 100000 := by have := hr10.len; have h2 := HBZ.out; have h3 := recs_count hr10; omega
              obtain ⟨Ag, cg, rfl, hcg, -⟩ := HL9.out.1.ex
              have HB610 := Lib.hid (HL9.out.2.2.trans (b10.mono HL9.out.2.2.size))
              have hlg := HL9.out.1.below b10
              have hll10 := (HLS.out.below (HW6.out.trans (HB610.out.mono HW6.out.size)))
              rw [HN.out] at hll10
              have hcapn : n ≤ cap := by
                obtain ⟨_, _, e, h, -⟩ := hll10.ex
                rw [HN.out] at h
                rw [(Value.slice.inj e).2.2]; exact h
              have hcase : (decide (k ≤ outs.length)) = true := by simpa using hko
              have hS1 : ∀ w', Below w10.heap.size w10 w' → Calls Tryd.prog 17 #[.slice Ag outs.length cg, vw] w' fun e w2 => e = .returned (.bool true) ∧ Below w10.heap.size w10 w2 := fun w' hb => by
                refine (same_any _ _ outs (outs.map tx) w' (hlg.below hb) (ot10.strs.below hb) hoN (by rw [List.length_map]; exact hoN)).mono ?_
                rintro e w2 ⟨b, rfl, hb1, hb2⟩
                have : b = true := hb1.2 rfl
                exact ⟨by rw [this], hb.trans (hb2.mono hb.size)⟩
              have hTX : ∀ w', Below w10.heap.size w10 w' → Calls Tryd.prog 11 #[.slice (some ⟨g, o, none⟩) k cap] w' fun e w2 => ∃ v, e = .returned v ∧ Strs (fun i => w10.heap.size ≤ i) w2 v ((ls.take k).map tx) ∧ Below w10.heap.size w10 w2 := fun w' hb => by
                refine (texts_any _ _ w' ((hll10.take (k := k) (by have := HN.out; omega)).below hb) (by rw [List.length_take]; have := HN20.out; omega)).mono ?_
                rintro e w2 ⟨v, rfl, ot, b⟩
                exact ⟨v, rfl, ot.strs.mv (Mv.refl (fun _ => False) _) (fun i _ hi => ⟨fun c => c, Nat.le_trans hb.size hi⟩), hb.trans (b.mono hb.size)⟩
              have hS2 : ∀ w' v, Below w10.heap.size w10 w' → Strs (fun i => w10.heap.size ≤ i) w' v ((ls.take k).map tx) → Calls Tryd.prog 17 #[.slice Ag k cg, v] w' fun e w2 => e = .returned (.bool true) ∧ Below w10.heap.size w10 w2 := fun w' v hb hs => by
                have hg2 := (hlg.take hko).below hb
                rw [htk] at hg2
                refine (same_any _ _ (ls.take k) ((ls.take k).map tx) w' hg2 hs (by rw [List.length_take]; have := HN20.out; omega) (by rw [List.length_map, List.length_take]; have := HN20.out; omega)).mono ?_
                rintro e w2 ⟨b, rfl, hb1, hb2⟩
                have : b = true := hb1.2 rfl
                exact ⟨by rw [this], hb.trans (hb2.mono hb.size)⟩
              obtain ⟨N, hN⟩ : ∃ N, outs.length = N := ⟨_, rfl⟩
              rw [hN] at hS1 hko hcase hcg ⊢
              have hS : ∀ w' x y, Below w10.heap.size w10 w' → ((x = .slice Ag N cg ∧ y = vw) ∨ (x = .slice Ag k cg ∧ Strs (fun i => w10.heap.size ≤ i) w' y ((ls.take k).map tx))) → Calls Tryd.prog 17 #[x, y] w' fun e w2 => e = .returned (.bool true) ∧ Below w10.heap.size w10 w2 := by
                rintro w' x y hb (⟨rfl, rfl⟩ | ⟨rfl, hs⟩)
                · exact hS1 w' hb
                · exact hS2 w' y hb hs
              have hcg2 : (k : Int) ≤ cg := by omega
              have hkn2 : (k : Int) ≤ cap := by omega
              have hko2 : (k : Int) ≤ N := by omega
              have hfin := Lib.hid (HW6.out.trans (HB610.out.mono HW6.out.size))
              have hbr : Below w10.heap.size w10 w10.drew := (Below.refl _ _).drew
              clear hS1 hS2 hN hr10 ot10 b10 hlg hll10 hcg hcapn hko htk hcv9 hoN hcr hcv
              go_wp2_with fail
              go_region_held3 (fun w' => Below w10.heap.size w10 w') (assumption) (first | (go_at_call 11; refine (hTX _ (by assumption)).mono ?_; rintro e w11 ⟨vt2, rfl, hst, hb11⟩) | (go_at_call 17; refine (hS _ _ _ (by assumption) (by first | exact .inl ⟨rfl, rfl⟩ | exact .inr ⟨rfl, by assumption⟩)).mono ?_; rintro e w12 ⟨rfl, hb12⟩))
              go_wp2_with fail
              go_ret
              exact ⟨rfl, hfin.out.trans (hb12.mono hfin.out.size)⟩
            · have hb1 : ¬ (a : Int) < y + y2 := by omega
              go_wp2_with fail
              go_roundw
              case rel => exact ⟨k + 1, by omega, by go_num, by rw [HSTEP.out]; go_num, by rw [HSTEP.out]; omega, HB6.out⟩
              case measure => simp [intOf]; omega
          · exfalso
            have hkn : k = n := by omega
            rw [show ls.take k = ls by rw [hkn, ← HN.out, List.take_length], HZ.out] at hka
            have := HA.out
            omega
      · obtain ⟨s, hs⟩ : ∃ s, tx (framesL ls) = s := ⟨_, rfl⟩
        rw [hs] at hsz ⊢
        have hd : (decide (at' < 0) || decide ((z : Int) ≤ at')) = true := by simp; omega
        clear hs hz
        go_wp2_with fail
        all_goals
          go_ret
          exact ⟨rfl, HB4.out⟩
end Go.Proofs.YtldicnhpccionaaDoor
