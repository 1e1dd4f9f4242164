/-
WalResets: a reset is done whole, or not at all.
-/
import Derived.Test.YtldicnhpccionaaDoorGreat
namespace Go.Proofs.YtldicnhpccionaaDoor
open Go.RowKit
set_option linter.unusedVariables false
set_option linter.unusedSimpArgs false
theorem Lst.any {P : Nat → Prop} {w : World} {v : Value} {ls : List (List UInt8)} (h : Lst P w v ls) : Lst (fun _ => True) w v ls := h.mv (Mv.refl (fun _ => False) w) (fun _ _ _ => ⟨fun c => c, trivial⟩)
theorem callAt_list {w : World} {v : Value} {ls : List (List UInt8)} {g o : Nat} (hr : rowAt w g o 5 = some #[.int .i64 0, v, .int .i64 0, .int .i64 0, .slice none 0 0]) (h : Lst (fun _ => True) w v ls) : CallAt (fun _ => True) w g o ⟨0, 0, 0, ls, []⟩ :=
  ⟨⟨v, none, 0, hr, h, ⟨fun h => absurd h (by simp)⟩, fun _ => ⟨rfl, rfl⟩, fun _ _ h => (by cases h)⟩⟩
theorem calls_two {P P1 : Nat → Prop} {w : World} {v v1 : Value} {ls ks : List (List UInt8)} (h : Lst P w v ls) (h1 : Lst P1 w v1 ks) :
    CallsL (fun _ => True) (w.alloc (.cells #[.int .i64 0, v, .int .i64 0, .int .i64 0, .slice none 0 0, .int .i64 0, v1, .int .i64 0, .int .i64 0, .slice none 0 0] 27)) (.slice (some ⟨w.heap.size, 0, none⟩) 2 2) [⟨0, 0, 0, ls, []⟩, ⟨0, 0, 0, ks, []⟩] := by
  have hb := alloc_below w (.cells #[.int .i64 0, v, .int .i64 0, .int .i64 0, .slice none 0 0, .int .i64 0, v1, .int .i64 0, .int .i64 0, .slice none 0 0] 27)
  refine ⟨⟨_, 2, rfl, fun _ => ⟨w.heap.size, 0, rfl, by simp, trivial, fun i hi => ?_⟩⟩⟩
  have hi' : i = 0 ∨ i = 1 := by simp at hi; omega
  rcases hi' with rfl | rfl
  · exact callAt_list (by rw [rowAt_alloc_at _ _ _ _ _ _ rfl]; rfl) (h.any.below hb)
  · exact callAt_list (by rw [rowAt_alloc_at _ _ _ _ _ _ rfl]; rfl) (h1.any.below hb)
theorem calls_one {P : Nat → Prop} {w : World} {v : Value} {ls : List (List UInt8)} (h : Lst P w v ls) :
    CallsL (fun _ => True) (w.alloc (.cells #[.int .i64 0, v, .int .i64 0, .int .i64 0, .slice none 0 0] 27)) (.slice (some ⟨w.heap.size, 0, none⟩) 1 1) [⟨0, 0, 0, ls, []⟩] := by
  have hb := alloc_below w (.cells #[.int .i64 0, v, .int .i64 0, .int .i64 0, .slice none 0 0] 27)
  refine ⟨⟨_, 1, rfl, fun _ => ⟨w.heap.size, 0, rfl, by simp, trivial, fun i hi => ?_⟩⟩⟩
  have hi' : i = 0 := by simp at hi; omega
  subst hi'
  exact callAt_list (by rw [rowAt_alloc_at _ _ _ _ _ _ rfl]; rfl) (h.any.below hb)
/-- what is small -/
theorem small_one {ls : List (List UInt8)} (h : callsSize [⟨0, 0, 0, ls, []⟩] ≤ 8192) (h20 : ls.length ≤ 20) : (framesL ls).length ≤ 9000 ∧ ∀ l ∈ ls, l.length ≤ 100000 := by
  have h1 : lens ls ≤ 8192 := by simp [callsSize] at h; omega
  refine ⟨by rw [frames_lens]; omega, fun l hl => ?_⟩
  have := len_le_lens hl; omega
theorem LogS.opened {w w' : World} {lb db : Nat} {nm : ByteArray} {F F' : Nat → Prop} (h : LogS w lb db nm F) (m : Mv F w w') (hF : ∀ i, F' i → orNew F w i) : LogS w' lb db nm F' :=
  ⟨h.at'.mv m h.no, fun c => (hF _ c).elim h.no (fun c => by have := h.at'.lt; omega)⟩
/-- an opening in which the power goes: all was safe, and is -/
theorem open_one {p : PD} {nm : ByteArray} {outs : List (List UInt8)} {m : Nat} {X : List (List UInt8)} (hd : p.down = false) (hf : p.fuse = 1) (hX : ∀ l ∈ X, l.length ≤ 100000) (hc : cont nm p = (framesL X, [])) (hr : FileRecs nm p.cs outs m) : cont nm (openP p nm m).1 = (framesL X, []) := by
  rcases hr with ⟨hg, rfl⟩ | ⟨x, hg, hr⟩
  · have e1 : openP p nm m = (p, 0) := by unfold openP; rw [if_neg (by rw [hd]; decide), hg]
    rw [e1]; exact hc
  · have hx : x = (framesL X, []) := by rw [← hc]; unfold cont; rw [hg]; rfl
    have h1 := recs_frames (ls := X) (t := []) hX recs_nil
    rw [hx, List.append_nil] at hr
    rw [List.append_nil, List.append_nil] at h1
    obtain ⟨-, hm⟩ := hr.det h1
    unfold openP
    rw [if_neg (by rw [hd]; decide), hg, hx]
    have e2 : ¬ m < (framesL X ++ []).length := by rw [List.append_nil]; omega
    simp only [if_neg e2, if_true]
    rcases sync_cases nm p hd with ⟨h, -⟩ | ⟨-, -, -, -, h⟩
    · exact absurd hf h
    · rw [h, hc]; simp [keepN]
set_option maxRecDepth 100000 in
set_option maxHeartbeats 4000000 in
theorem resets_walk (W : World) (v v1 : Value) (ls ks : List (List UInt8)) (n keep : Int) (htab : Tab W) (h0 : 0 < W.heap.size) (hL : Lst (fun i => i < W.heap.size) W v ls) (hK : Lst (fun i => i < W.heap.size) W v1 ks) (hn : n ≤ 9223372036854775807)
    (hls : ls.length ≤ 140737488355328) (hll : ∀ l ∈ ls, l.length ≤ 140737488355328) (hks : ks.length ≤ 140737488355328) (hkl : ∀ l ∈ ks, l.length ≤ 140737488355328) :
    Calls Tryd.prog 6 #[v, v1, .int .i64 n, .int .i64 keep] W fun e w' => e = .returned (.bool true) ∧ Below W.heap.size W w' := by
  have hal := Lib.hid (alive_any W htab h0)
  have HT := Lib.hid htab
  obtain ⟨A, cap, rfl, hcap, hel⟩ := hL.ex
  obtain ⟨A1, cap1, rfl, hcap1, hel1⟩ := hK.ex
  have HLS := Lib.hid hL
  have HKS := Lib.hid hK
  have HLL := Lib.hid (And.intro hls hll)
  have HKL := Lib.hid (And.intro hks hkl)
  have HN := Lib.hid hn
  clear htab hL hK hcap hel hel1 hcap1 hll hn hls hks hkl
  go_enter Tryd.func6, Tryd.ntmps6
  go_wp2_with fail
  refine hal.out.mono ?_
  rintro e w1 ⟨rfl, hb1⟩
  have HB1 := Lib.hid hb1
  clear hal hb1
  go_wp2_with fail
  have hbw := HB1.out
  have hgr := Lib.hid (great_any _ _ _ (calls_two (HLS.out.below hbw) (HKS.out.below hbw)) (by simp) (fun c hc => by
    simp only [List.mem_cons, List.not_mem_nil, or_false] at hc
    rcases hc with rfl | rfl
    · exact ⟨by simp, HLL.out.1, HLL.out.2⟩
    · exact ⟨by simp, HKL.out.1, HKL.out.2⟩))
  clear hbw
  refine hgr.out.mono ?_
  rintro e w2 ⟨b, rfl, hb2, hsm⟩
  have HB2 := Lib.hid (HB1.out.trans (((alloc_below w1 _).trans (hb2.mono (by simp))).mono HB1.out.size))
  have HSM := Lib.hid hsm
  clear hgr hb2 hsm
  cases b with
  | true =>
    go_wp2_with fail
    go_ret
    exact ⟨rfl, HB2.out⟩
  | false =>
    have hs := HSM.out rfl
    obtain ⟨-, hs1, hs2⟩ := hs
    have hls20 : ls.length ≤ 20 := hs2 ⟨0, 0, 0, ls, []⟩ (by simp)
    have hks20 : ks.length ≤ 20 := hs2 ⟨0, 0, 0, ks, []⟩ (by simp)
    have hcs : lens ls + lens ks ≤ 8192 := by simp [callsSize] at hs1; omega
    have htot1 : (framesL ls).length ≤ 9000 := by rw [frames_lens]; omega
    have htot2 : (framesL ks).length ≤ 9000 := by rw [frames_lens]; omega
    have hlen1 : ∀ l ∈ ls, l.length ≤ 100000 := fun l hl => by have := len_le_lens hl; omega
    have hlen2 : ∀ l ∈ ks, l.length ≤ 100000 := fun l hl => by have := len_le_lens hl; omega
    have HLE1 := Lib.hid hlen1
    have HLE2 := Lib.hid hlen2
    have hnew := Lib.hid (new_any w2)
    clear hs1 hs2 hcs hlen1 hlen2 HSM HLL HKL
    go_wp2_with fail
    refine hnew.out.mono ?_
    rintro e w3 ⟨db, rfl, hdb, d3, b3⟩
    have L3 : Law w2 db (fun i => w2.heap.size ≤ i) newP w3 := ⟨d3, fun i h => h, b3⟩
    have HT2 := Lib.hid (HT.out.below HB2.out h0)
    have hw2 : 0 < w2.heap.size := Nat.lt_of_lt_of_le h0 HB2.out.size
    have hop := Lib.hid (open_law nmLog L3 newP_fit (by omega) (by omega) (by omega) (by decide) HT2.out hw2 rfl (by decide) (by decide))
    clear hnew d3 b3 L3
    go_wp2_with fail
    refine hop.out.mono ?_
    rintro e w4 ⟨outs, m4, F4, p4, lb, vo, rfl, L4, G4, -, hr, hco, hdn, hfu, -, ft4, -, -⟩
    have hw0 : whole nmLog newP = [] := rfl
    rw [hw0, List.take_nil] at hco
    have hfu := hfu rfl
    have hap := Lib.hid (lAppend_law _ _ L4 G4 ft4 (by omega) (by omega) (by decide) (HLS.out.below (HB2.out.trans (L4.bel.mono HB2.out.size))) HT2.out hw2 (by omega))
    obtain ⟨-, k0, k1, k2, -, k4⟩ | ⟨k5, -⟩ := append_cases nmLog (framesL ls) p4 hdn
    rotate_left
    · rw [hfu] at k5; cases k5
    have k2 := k2 hfu
    rw [hco] at k4
    rw [k0] at hap
    generalize (appendP p4 nmLog (framesL ls)).1 = p5 at hap k1 k2 k4
    clear hop L4 G4 ft4 hr hco hdn hfu k0 hw0
    go_wp2_with fail
    refine hap.out.mono ?_
    rintro e w5 ⟨rfl, L5, G5, ft5, -⟩
    have hsy := Lib.hid (lSync_law L5 G5 ft5 (by omega) (by omega) (by omega) (by decide))
    obtain ⟨-, s0, s1, s2, -, s4⟩ | ⟨k5, -⟩ := sync_cases nmLog p5 k1
    rotate_left
    · rw [k2] at k5; cases k5
    unfold whole at s4
    rw [k4] at s4
    rw [s0] at hsy
    rw [List.nil_append] at s4
    generalize (syncP p5 nmLog).1 = p6 at hsy s1 s4
    clear hap L5 G5 ft5 k1 k2 k4 s0 s2
    go_wp2_with fail
    refine hsy.out.mono ?_
    rintro e w6 ⟨rfl, L6, G6, ft6, -⟩
    have har := Lib.hid (arm_law n keep HN.out L6 G6 ft6)
    have hc7 : cont nmLog (p6.arm n keep) = ([] ++ framesL ls, []) := s4
    have hd7 : (p6.arm n keep).down = false := s1
    generalize p6.arm n keep = p7 at har hc7 hd7
    clear hsy L6 G6 ft6 s1 s4
    go_wp2_with fail
    refine har.out.mono ?_
    rintro e w7 ⟨rfl, L7, G7, ft7, -⟩
    rw [List.nil_append] at hc7
    have hre := lReset_law _ _ L7 G7 ft7 (by omega) (by omega) (by decide) (HKS.out.below (HB2.out.trans (L7.bel.mono HB2.out.size))) HT2.out hw2 (by omega)
    have hX : ∃ X, (((installP p7 nmLog (framesL ks)).2 = 0 ∧ X = ks) ∨ ((installP p7 nmLog (framesL ks)).2 = 21 ∧ X = ls)) ∧ cont nmLog ((installP p7 nmLog (framesL ks)).1.lose keep) = (framesL X, []) := by
      rcases install_cases nmLog (framesL ks) p7 hd7 with ⟨-, c0, c1, -, -, c4⟩ | ⟨-, c0, c1, -, c4⟩
      · refine ⟨ks, .inl ⟨c0, rfl⟩, ?_⟩
        rw [(cont_lose nmLog keep _ c1).1, c4]; simp [keepN]
      · refine ⟨ls, .inr ⟨c0, rfl⟩, ?_⟩
        have e : (installP p7 nmLog (framesL ks)).1.lose keep = (installP p7 nmLog (framesL ks)).1 := by unfold PD.lose; rw [if_pos c1]
        rw [e, c4, hc7]; simp [keepN]
    obtain ⟨X, hX1, hX2⟩ := hX
    have hXl : ∀ l ∈ X, l.length ≤ 100000 := by
      rcases hX1 with ⟨-, rfl⟩ | ⟨-, rfl⟩
      · exact HLE2.out
      · exact HLE1.out
    generalize installP p7 nmLog (framesL ks) = r at hre hX1 hX2
    obtain ⟨p8, c8⟩ := r
    simp only at hX1 hX2
    have HRE := Lib.hid hre
    have HX1 := Lib.hid hX1
    have HXL := Lib.hid hXl
    clear har L7 G7 ft7 hc7 hd7 hre hX1 hXl
    go_wp2_with fail
    refine HRE.out.mono ?_
    rintro e w8 ⟨rfl, L8, G8, ft8, -⟩
    have hof := Lib.hid (off_law keep L8 G8 ft8 (by omega) (by omega) (by omega))
    generalize p8.lose keep = p9 at hof hX2
    clear HRE L8 G8 ft8
    go_wp2_with fail
    refine hof.out.mono ?_
    rintro e w9 ⟨rfl, L9, G9, ft9, -⟩
    have hon := Lib.hid (on_law L9 G9 ft9)
    clear hof L9 G9 ft9
    go_wp2_with fail
    refine hon.out.mono ?_
    rintro e w10 ⟨rfl, L10, G10, ft10, -⟩
    have har := Lib.hid (arm_law 1 keep (by decide) L10 G10 ft10)
    have hc10 : cont nmLog (({ p9 with down := false } : PD).arm 1 keep) = (framesL X, []) := hX2
    have hf10 : (({ p9 with down := false } : PD).arm 1 keep).fuse = 1 := rfl
    have hd10 : (({ p9 with down := false } : PD).arm 1 keep).down = false := rfl
    generalize ({ p9 with down := false } : PD).arm 1 keep = p10 at har hc10 hf10 hd10
    clear hon L10 G10 ft10 hX2
    go_wp2_with fail
    refine har.out.mono ?_
    rintro e w11 ⟨rfl, L11, G11, ft11, -⟩
    have hop := Lib.hid (open_any nmLog w11 L11.dk ft11 (by omega) (by omega) (by omega) (by decide) (L11.tab HT2.out hw2) (L11.pos hw2))
    have hnd := L11.dk.nd
    have HL11 := Lib.hid (And.intro L11 (And.intro G11 ft11))
    have HC := Lib.hid (And.intro hc10 (And.intro hf10 hd10))
    clear har L11 G11 ft11 hc10 hf10 hd10
    go_wp2_with fail
    refine hop.out.mono ?_
    rintro e w12 ⟨outs12, m12, F12, hr12, d12, hF12, mv12, hcase⟩
    have L12 := HL11.out.1.opened d12 hF12 mv12
    have G12 := HL11.out.2.1.opened mv12 hF12
    have ft12 := HL11.out.2.2.opened nmLog m12 hnd
    have hc12 := open_one HC.out.2.2 HC.out.2.1 HXL.out HC.out.1 hr12
    have hres : ∃ v12, e = .returned v12 := by rcases hcase with ⟨-, lb2, vo2, rfl, -⟩ | ⟨-, rfl⟩ <;> exact ⟨_, rfl⟩
    obtain ⟨v12, rfl⟩ := hres
    generalize (openP p10 nmLog m12).1 = p12 at L12 ft12 hc12
    have hon := Lib.hid (on_law L12 G12 ft12)
    clear hop hcase d12 hF12 mv12 hr12 L12 G12 ft12 hnd
    go_wp2_with fail
    refine hon.out.mono ?_
    rintro e w13 ⟨rfl, L13, G13, ft13, -⟩
    have har := Lib.hid (arm_law 0 0 (by decide) L13 G13 ft13)
    have hc13 : cont nmLog (({ p12 with down := false } : PD).arm 0 0) = (framesL X, []) := hc12
    have hf13 : (({ p12 with down := false } : PD).arm 0 0).fuse = 0 := rfl
    have hd13 : (({ p12 with down := false } : PD).arm 0 0).down = false := rfl
    generalize ({ p12 with down := false } : PD).arm 0 0 = p13 at har hc13 hf13 hd13
    clear hon L13 G13 ft13 hc12
    go_wp2_with fail
    refine har.out.mono ?_
    rintro e w14 ⟨rfl, L14, G14, ft14, -⟩
    have hop := Lib.hid (open_law nmLog L14 ft14 (by omega) (by omega) (by omega) (by decide) HT2.out hw2 hd13 (by rw [hf13]; decide) (by rw [hf13]; decide))
    have hwh : whole nmLog p13 = framesL X := by unfold whole; rw [hc13, List.append_nil]
    clear har L14 G14 ft14 hf13 hd13 hc13
    go_wp2_with fail
    refine hop.out.mono ?_
    rintro e w15 ⟨outs15, m15, F15, p15, lb15, vo15, rfl, L15, G15, hls15, hr15, -⟩
    have houts : outs15 = X := by
      rw [hwh] at hr15
      have h1 := recs_frames (ls := X) (t := []) HXL.out recs_nil
      rw [List.append_nil, List.append_nil] at h1
      exact (hr15.det h1).1
    subst houts
    have htx := Lib.hid (texts_any _ _ w15 (HKS.out.below (HB2.out.trans (L15.bel.mono HB2.out.size))) (by omega))
    have HL15 := Lib.hid (And.intro L15 hls15)
    clear hop L15 G15 hls15 hr15 hwh
    go_wp2_with fail
    refine htx.out.mono ?_
    rintro e w16 ⟨vt, rfl, hot, b16⟩
    have HL16 := Lib.hid (And.intro (HL15.out.1.below b16) (HL15.out.2.below b16))
    rcases HX1.out with ⟨rfl, rfl⟩ | ⟨rfl, rfl⟩
    · have hsm := Lib.hid (same_any _ _ _ _ w16 HL16.out.2 hot.strs (by omega) (by rw [List.length_map]; omega))
      clear htx hot b16
      go_wp2_with fail
      refine hsm.out.mono ?_
      rintro e w17 ⟨b, rfl, hb, b17⟩
      have hbt : b = true := hb.2 rfl
      subst hbt
      have E := Lib.hid (HB2.out.trans ((HL16.out.1.below b17).bel.mono HB2.out.size))
      clear b17 hb hsm
      go_wp2_with fail
      go_ret
      exact ⟨rfl, E.out⟩
    · have htx2 := Lib.hid (texts_any _ _ w16 (HLS.out.below (HB2.out.trans (HL16.out.1.bel.mono HB2.out.size))) (by omega))
      clear htx hot b16
      go_wp2_with fail
      refine htx2.out.mono ?_
      rintro e w17 ⟨vt2, rfl, hot2, b17⟩
      have hsm := Lib.hid (same_any _ _ _ _ w17 (HL16.out.2.below b17) hot2.strs (by omega) (by rw [List.length_map]; omega))
      have HL17 := Lib.hid (HL16.out.1.below b17)
      clear htx2 hot2 b17
      go_wp2_with fail
      refine hsm.out.mono ?_
      rintro e w18 ⟨b, rfl, hb, b18⟩
      have hbt : b = true := hb.2 rfl
      subst hbt
      have E := Lib.hid (HB2.out.trans ((HL17.out.below b18).bel.mono HB2.out.size))
      clear b18 hb hsm
      go_wp2_with fail
      go_ret
      exact ⟨rfl, E.out⟩
end Go.Proofs.YtldicnhpccionaaDoor
