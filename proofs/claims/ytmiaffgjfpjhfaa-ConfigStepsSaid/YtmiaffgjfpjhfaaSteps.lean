/-
ConfigSteps: what a change answers can be, its epoch is one greater, and all members but one are as they were.
-/
import Derived.Test.YtmiaffgjfpjhfaaStepsP
import Derived.Test.YtmiaffgjfpjhfaaRows
import Derived.Deep.DeepCutAuto
namespace Go.Proofs.Ytmiaffgjfpjhfaa
open Go.ChangeShapes Go.WideShapes Go.ChangeAt Go.RowKit
set_option linter.unusedVariables false
set_option linter.unusedSimpArgs false

set_option maxHeartbeats 2000000 in
theorem steps_far (ep : Int) (A : Option Addr) (n cap : Nat) {x : Chg} (hx : x.ok) (w : World) (hl : ¬ n ≤ 256) :
    Calls Try.prog 7 #[.agg #[.int .i64 ep, .slice A n cap], .agg x.arr] w fun e w' => e = .returned (.bool true) ∧ Below w.heap.size w w' := by
  have hB := (alloc_below w (.cells #[.int .i64 ep, .slice A n cap] 24)).alloc (by simp) (.cells x.arr 35)
  have B0 := Lib.hid ((Box.start w ep A n cap).later (alloc_below _ (.cells x.arr 35)))
  have h1 : (256 : Int) < n := by omega
  clear hl
  go_enter Try.func7, Try.ntmps7
  go_wp2_with fail
  refine (alive_any _).mono ?_
  rintro e w1 ⟨rfl, hb1⟩
  obtain ⟨c0, c1, -⟩ := B0.out.later hb1
  go_wp2_with fail
  go_ret
  exact ⟨rfl, hB.trans (hb1.mono (by simp; omega))⟩

set_option maxRecDepth 4000 in
set_option maxHeartbeats 4000000 in
theorem steps_bad (ep : Int) (A : Option Addr) (n cap : Nat) (x : Chg) (ms : List Mb) (w : World) (h : MS w A n ms) (hl : n ≤ 256) (hx : x.ok) (hE : appE ep ms x ≠ 0) :
    Calls Try.prog 7 #[.agg #[.int .i64 ep, .slice A n cap], .agg x.arr] w fun e w' => e = .returned (.bool true) ∧ Below w.heap.size w w' := by
  have hB := (alloc_below w (.cells #[.int .i64 ep, .slice A n cap] 24)).alloc (by simp) (.cells x.arr 35)
  have B0 := Lib.hid ((Box.start w ep A n cap).later (alloc_below _ (.cells x.arr 35)))
  have H := Lib.hid (h.below hB)
  have rk := Lib.hid (row_alloc (w.alloc (.cells #[.int .i64 ep, .slice A n cap] 24)) x.arr 35 (Chg.sz hx))
  have h1 : ¬ (256 : Int) < n := by omega
  have hxx := Lib.hid hx
  have HE := Lib.hid hE
  obtain ⟨E, he⟩ : ∃ E, appE ep ms x = E := ⟨_, rfl⟩
  have hE0 : (E != 0) = true := by rw [bne_iff_ne, ← he]; exact hE
  have HEE := Lib.hid he
  clear h hl hx hE he
  go_enter Try.func7, Try.ntmps7
  go_wp2_with fail
  refine (alive_any _).mono ?_
  rintro e w1 ⟨rfl, hb1⟩
  have H1 := Lib.hid (H.out.below hb1)
  have B1 := Lib.hid (B0.out.later hb1)
  obtain ⟨c0, c1, ch⟩ := B1.out
  have rk1 := (rowAt_below hb1 (b := w.heap.size + 1) (by simp) 0 36).trans (by have := rk.out; simpa using this)
  go_wp2_with fail
  refine (apply_any ep A n cap ms x _ H1.out hxx.out).mono fun e w2 h2 => ?_
  obtain ⟨A2, cap2, rfl, M2, hb2⟩ := h2.no HE.out (appR_no HE.out)
  rw [HEE.out]
  have hb3 := hb2.alloc hb2.size (.cells #[.int .i64 0, .slice A2 0 cap2] 24)
  have M3 := Lib.hid (M2.below (alloc_below w2 (.cells #[.int .i64 0, .slice A2 0 cap2] 24)))
  have D3 := Lib.hid (Box.start w2 0 A2 0 cap2)
  have I3 := Lib.hid (since (since hB (by simp; omega) hb1).1 (since hB (by simp; omega) hb1).2 hb3)
  have HS := Lib.hid (show sameB 0 [] 0 [] = true by unfold sameB; simp)
  obtain ⟨d0, d1, dh⟩ := D3.out
  clear M2 c0 c1 rk1 h2
  go_wp2_with fail
  refine (same_any 0 0 A2 none 0 cap2 0 0 [] [] _ M3.out ⟨rfl, by decide, fun m hm => absurd hm (by simp), fun h => absurd h (by decide)⟩).mono ?_
  rw [HS.out]
  rintro e w8 ⟨rfl, hb8⟩
  go_wp2_with fail
  go_ret
  exact ⟨rfl, (since I3.out.1 I3.out.2 hb8).1⟩

theorem small_n {n : Nat} (h : n ≤ 257) : n ≤ 140737488355328 := by omega
theorem small_n1 {n : Nat} (h : n ≤ 257) : n + 1 ≤ 140737488355328 := by omega
theorem wrap_cnt {v i n : Nat} (h : v ≤ i) (hi : i < n) (hn : n ≤ 257) : wrap64 ((v : Int) + 1) = v + 1 := by unfold wrap64; omega
/-- the facts that a round of the loops has: a member, found or not -/
theorem find_cases {l : List Mb} (hu : Up l) {n : Nat} (hn : l.length = n) (m : Mb) : (placeI l m.id = -1 ∧ m ∉ l) ∨ ∃ j, j < n ∧ placeI l m.id = (j : Int) ∧ ((l.getD j default = m ∧ m ∈ l) ∨ (l.getD j default ≠ m ∧ m ∉ l)) := by
  subst hn
  rcases placeI_cases l m.id with ⟨h1, h2⟩ | ⟨j, hj, hp, hid, -⟩
  · exact .inl ⟨h1, out_of h2⟩
  · refine .inr ⟨j, hj, hp, ?_⟩
    by_cases c : l.getD j default = m
    · exact .inl ⟨c, (in_of hu hj hid).2 c⟩
    · exact .inr ⟨c, fun h => c ((in_of hu hj hid).1 h)⟩

set_option maxRecDepth 4000 in
set_option maxHeartbeats 4000000 in
theorem steps_good (ep : Int) (A : Option Addr) (n cap : Nat) (x : Chg) (ms : List Mb) (w : World) (h : MS w A n ms) (hl : n ≤ 256) (hx : x.ok) (hE : appE ep ms x = 0) :
    Calls Try.prog 7 #[.agg #[.int .i64 ep, .slice A n cap], .agg x.arr] w fun e w' => e = .returned (.bool true) ∧ Below w.heap.size w w' := by
  have hB := (alloc_below w (.cells #[.int .i64 ep, .slice A n cap] 24)).alloc (by simp) (.cells x.arr 35)
  have B0 := Lib.hid ((Box.start w ep A n cap).later (alloc_below _ (.cells x.arr 35)))
  have H := Lib.hid (h.below hB)
  have rk := Lib.hid (row_alloc (w.alloc (.cells #[.int .i64 ep, .slice A n cap] 24)) x.arr 35 (Chg.sz hx))
  have h1 : ¬ (256 : Int) < n := by omega
  have hxx := Lib.hid hx
  have HE := Lib.hid hE
  have HC := Lib.hid (changed hE)
  have HL := Lib.hid h.len
  have hn256 := Lib.hid hl
  have hlenR := appR_len ep ms x
  rw [HL.out] at hlenR
  obtain ⟨L, hR⟩ : ∃ L, appR ep ms x = L := ⟨_, rfl⟩
  obtain ⟨n4, hn4⟩ : ∃ k, L.length = k := ⟨_, rfl⟩
  rw [hR, hn4] at hlenR
  have HC := Lib.hid (show Changed ep ms L by rw [← hR]; exact HC.out)
  have HN := Lib.hid hn4
  have HR := Lib.hid hR
  have hb4 := Lib.hid (show n4 ≤ 257 by omega)
  have hwe := Lib.hid (show wrap64 (ep + 1) = ep + 1 by have := (appE_zero hE).1; have := (good_iff.1 this.1).1; unfold wrap64; omega)
  have hsh := Lib.hid (share (up_nodup HC.out.upB) (up_nodup HC.out.upA))
  clear h hl hx hE hlenR hn4 hR
  go_enter Try.func7, Try.ntmps7
  go_wp2_with fail
  refine (alive_any _).mono ?_
  rintro e w1 ⟨rfl, hb1⟩
  have H1 := Lib.hid (H.out.below hb1)
  have B1 := Lib.hid (B0.out.later hb1)
  obtain ⟨c0, c1, ch⟩ := B1.out
  have rk1 := (rowAt_below hb1 (b := w.heap.size + 1) (by simp) 0 36).trans (by have := rk.out; simpa using this)
  go_wp2_with fail
  refine (apply_any ep A n cap ms x _ H1.out hxx.out).mono fun e w2 h2 => ?_
  rw [HE.out, HR.out] at h2
  obtain ⟨A2, cap2, rfl, M2, -, hb2⟩ := h2.yes HN.out (by have := hb4.out; omega)
  have hb3 := hb2.alloc hb2.size (.cells #[.int .i64 (ep + 1), .slice A2 n4 cap2] 24)
  have M3 := Lib.hid (M2.below (alloc_below w2 (.cells #[.int .i64 (ep + 1), .slice A2 n4 cap2] 24)))
  have D3 := Lib.hid (Box.start w2 (ep + 1) A2 n4 cap2)
  have B3 := Lib.hid (B1.out.later hb3)
  have H3 := Lib.hid (H1.out.below hb3)
  have I3 := Lib.hid (since (since hB (by simp; omega) hb1).1 (since hB (by simp; omega) hb1).2 hb3)
  obtain ⟨q0, q1, qh⟩ := B3.out
  clear M2 c0 c1 rk1 h2 hb3 h1
  go_wp2_with fail
  generalize w2.alloc (.cells #[.int .i64 (ep + 1), .slice A2 n4 cap2] 24) = W3 at *
  clear q0 q1
  go_loopw [39, 7] (fun t s wr => ∃ k : Nat, k ≤ n ∧ t = .int .i64 k ∧ s = .int .i64 (cnt L ms k) ∧ Below W3.heap.size W3 wr) (fun t _ _ => n - (intOf t).toNat)
  case atStart => exact ⟨0, by omega, rfl, rfl, Below.refl _ _⟩
  case round =>
    obtain ⟨k, hk', rfl, rfl, hbw⟩ := hrel
    have hgk := cnt_le L ms k
    by_cases hlt : k < n
    · obtain ⟨b1, o1, hA1, hlt1, hrow1⟩ := H3.out.mem (by omega)
      subst hA1
      have hm1 := H3.out.okAt hlt
      have r1 := (rowAt_below hbw hlt1 _ _).trans (hrow1 k hlt)
      have hcy := fun {m : Mb} => @cnt_yes L ms n k HL.out hlt m
      have hcn := fun {m : Mb} => @cnt_no L ms n k HL.out hlt m
      obtain ⟨m, hm⟩ : ∃ m, ms.getD k default = m := ⟨_, rfl⟩
      have hfc := find_cases HC.out.upB HN.out m
      rw [hm] at hm1 r1
      have HY := Lib.hid (fun h => hcy hm h)
      have HO := Lib.hid (fun h => hcn hm h)
      clear hrow1 hcy hcn hm
      have hws := hbw.size
      have u1 := alloc_below wr (.cells m.arr 37)
      have Br := Lib.hid ((B3.out.later hbw).later u1)
      have Dr := Lib.hid ((D3.out.later hbw).later u1)
      have Mr := Lib.hid ((M3.out.below hbw).below u1)
      obtain ⟨d0, d1, -⟩ := Dr.out
      have e1 : (wr.alloc (.cells m.arr 37)).heap[wr.heap.size]? = some (.cells m.arr 37 (0, 0)) := heap_alloc_new _ _
      have f1 := cell_of_row e1 m.at0
      have E1 := Lib.hid e1
      have s1 := Mb.sz hm1
      have s3 := m.ones
      have p1 := m.at0
      have t1 := Mb.cut hm1
      have hk0 : (0 : Int) ≤ k := by omega
      have hk1 : (k : Int) < n := by omega
      have hwr : wrap64 ((k : Int) + 1) = k + 1 := wrap_succ hlt (small_n (Nat.le_succ_of_le hn256.out))
      generalize hg : cnt L ms k = g at *
      have hwg : wrap64 ((g : Int) + 1) = g + 1 := wrap_cnt hgk hlt (Nat.le_succ_of_le hn256.out)
      have hbn := Lib.hid (hbw.trans (u1.mono hws))
      clear e1 hws u1 hg
      rcases hfc with ⟨hp, hnot⟩ | ⟨j, hj, hp, hc⟩
      · have HP := Lib.hid hp
        clear hp
        go_wp2_with fail
        refine (Find_none (ep + 1) A2 n4 cap2 L m.id _ Mr.out HP.out).mono ?_
        rintro e w5 ⟨rfl, hb5⟩
        have hb6 := hb5.alloc hb5.size (.cells Mb.zero.arr 37)
        have hz1 := Mb.zero_sz
        have hz2 := Mb.zero.ones
        go_wp2_with fail
        go_roundw
        case rel => clear hwr hwg; exact ⟨k + 1, by omega, by go_num, by rw [HY.out hnot]; go_num, hbn.out.trans (hb6.mono (by have := hbn.out.size; simpa using this))⟩
        case measure => clear hwr hwg; simp [intOf]; omega
      · have hj2 := M3.out.okAt hj
        have HP := Lib.hid hp
        have hne := run_neRow hj2 hm1
        have hFS := Find_some (ep + 1) A2 n4 cap2 L m.id j _ Mr.out hj HP.out
        generalize L.getD j default = l at *
        have hz1 := Mb.sz hj2
        have hz2 := l.ones
        have hz3 := Mb.cut hj2
        have HFS := Lib.hid hFS
        clear hp hFS
        rcases hc with ⟨rfl, hin⟩ | ⟨hdif, hnot⟩
        · simp only [decide_true, Bool.not_true] at hne
          go_wp2_with fail
          refine HFS.out.mono ?_
          rintro e w5 ⟨rfl, hb5⟩
          have hb6 := hb5.alloc hb5.size (.cells l.arr 37)
          have hs5 : wr.heap.size < w5.heap.size := by have := hb5.size; simp at this; omega
          have r5 := (rowAt_below hb5 (b := wr.heap.size) (by simp) 0 34).trans (row_alloc wr l.arr 37 s1)
          go_wp2_with fail
          go_roundw
          case rel => clear hwr hwg; exact ⟨k + 1, by omega, by go_num, by rw [HO.out hin], hbn.out.trans (hb6.mono (by have := hbn.out.size; simpa using this))⟩
          case measure => clear hwr hwg; simp [intOf]; omega
        · simp only [hdif, decide_false, Bool.not_false] at hne
          go_wp2_with fail
          refine HFS.out.mono ?_
          rintro e w5 ⟨rfl, hb5⟩
          have hb6 := hb5.alloc hb5.size (.cells l.arr 37)
          have hs5 : wr.heap.size < w5.heap.size := by have := hb5.size; simp at this; omega
          have r5 := (rowAt_below hb5 (b := wr.heap.size) (by simp) 0 34).trans (row_alloc wr m.arr 37 s1)
          go_wp2_with fail
          go_roundw
          case rel => clear hwr hwg; exact ⟨k + 1, by omega, by go_num, by rw [HY.out hnot]; go_num, hbn.out.trans (hb6.mono (by have := hbn.out.size; simpa using this))⟩
          case measure => clear hwr hwg; simp [intOf]; omega
    · obtain rfl : n = k := by omega
      have Dw := Lib.hid (D3.out.later hbw)
      have Bw := Lib.hid (B3.out.later hbw)
      have Mw := Lib.hid (M3.out.below hbw)
      have Hw := Lib.hid (H3.out.below hbw)
      have Iw := Lib.hid (since I3.out.1 I3.out.2 hbw)
      obtain ⟨d0, d1, -⟩ := Dw.out
      have hgo := HC.out.gone
      have hcnt := cnt_all (L := L) HL.out
      rw [← hcnt] at hgo
      have hshare := hsh.out
      rw [← hcnt, HL.out, HN.out] at hshare
      generalize hg : cnt L ms n = g at *
      have HSH := Lib.hid hshare
      have hg1 : (g : Int) ≤ 1 := by omega
      have HG1 := Lib.hid hg1
      clear hg hcnt hshare hgo hg1 hgk hk' hlt
      go_wp2_with fail
      clear d0 d1
      go_loopw [64, 8] (fun t s wr2 => ∃ i : Nat, i ≤ n4 ∧ t = .int .i64 i ∧ s = .int .i64 (cnt ms L i) ∧ Below wr.heap.size wr wr2) (fun t _ _ => n4 - (intOf t).toNat)
      case atStart => exact ⟨0, by omega, rfl, rfl, Below.refl _ _⟩
      case round =>
        obtain ⟨wv, hwv⟩ : ∃ x, x = wr := ⟨_, rfl⟩
        subst hwv
        obtain ⟨i, hi', rfl, rfl, hbv⟩ := hrel
        have hgi := cnt_le ms L i
        by_cases hlt : i < n4
        · obtain ⟨b1, o1, hA1, hlt1, hrow1⟩ := Mw.out.mem (by omega)
          subst hA1
          have hm1 := Mw.out.okAt hlt
          have r1 := (rowAt_below hbv hlt1 _ _).trans (hrow1 i hlt)
          have hcy := fun {m : Mb} => @cnt_yes ms L n4 i HN.out hlt m
          have hcn := fun {m : Mb} => @cnt_no ms L n4 i HN.out hlt m
          obtain ⟨m, hm⟩ : ∃ m, L.getD i default = m := ⟨_, rfl⟩
          have hfc := find_cases HC.out.upA HL.out m
          rw [hm] at hm1 r1
          have HY := Lib.hid (fun h => hcy hm h)
          have HO := Lib.hid (fun h => hcn hm h)
          clear hrow1 hcy hcn hm
          have hws := hbv.size
          have u1 := alloc_below wv (.cells m.arr 37)
          have Br := Lib.hid ((Bw.out.later hbv).later u1)
          have Dr := Lib.hid ((Dw.out.later hbv).later u1)
          have Mr := Lib.hid ((Hw.out.below hbv).below u1)
          obtain ⟨d0, d1, -⟩ := Br.out
          have e1 : (wv.alloc (.cells m.arr 37)).heap[wv.heap.size]? = some (.cells m.arr 37 (0, 0)) := heap_alloc_new _ _
          have f1 := cell_of_row e1 m.at0
          have E1 := Lib.hid e1
          have s1 := Mb.sz hm1
          have s3 := m.ones
          have p1 := m.at0
          have t1 := Mb.cut hm1
          have hk0 : (0 : Int) ≤ i := by omega
          have hk1 : (i : Int) < n4 := by omega
          generalize hg : cnt ms L i = v at *
          have hib : (n4 : Int) ≤ 257 := by have := hb4.out; omega
          have hbn := Lib.hid (hbv.trans (u1.mono hws))
          clear e1 hws u1 hg
          rcases hfc with ⟨hp, hnot⟩ | ⟨j, hj, hp, hc⟩
          · have HP := Lib.hid hp
            clear hp
            go_wp2_with fail
            refine (Find_none ep A n cap ms m.id _ Mr.out HP.out).mono ?_
            rintro e w5 ⟨rfl, hb5⟩
            have hb6 := hb5.alloc hb5.size (.cells Mb.zero.arr 37)
            have hz1 := Mb.zero_sz
            have hz2 := Mb.zero.ones
            go_wp2_with fail
            go_roundw
            case rel => exact ⟨i + 1, by omega, by go_num, by rw [HY.out hnot]; go_num, hbn.out.trans (hb6.mono (by have := hbn.out.size; simpa using this))⟩
            case measure => simp [intOf]; omega
          · have hj2 := Hw.out.okAt hj
            have HP := Lib.hid hp
            have hne := run_neRow hj2 hm1
            have hFS := Find_some ep A n cap ms m.id j _ Mr.out hj HP.out
            generalize ms.getD j default = l at *
            have hz1 := Mb.sz hj2
            have hz2 := l.ones
            have hz3 := Mb.cut hj2
            have HFS := Lib.hid hFS
            clear hp hFS
            rcases hc with ⟨rfl, hin⟩ | ⟨hdif, hnot⟩
            · simp only [decide_true, Bool.not_true] at hne
              go_wp2_with fail
              refine HFS.out.mono ?_
              rintro e w5 ⟨rfl, hb5⟩
              have hb6 := hb5.alloc hb5.size (.cells l.arr 37)
              have hs5 : wv.heap.size < w5.heap.size := by have := hb5.size; simp at this; omega
              have r5 := (rowAt_below hb5 (b := wv.heap.size) (by simp) 0 34).trans (row_alloc wv l.arr 37 s1)
              go_wp2_with fail
              go_roundw
              case rel => exact ⟨i + 1, by omega, by go_num, by rw [HO.out hin], hbn.out.trans (hb6.mono (by have := hbn.out.size; simpa using this))⟩
              case measure => simp [intOf]; omega
            · simp only [hdif, decide_false, Bool.not_false] at hne
              go_wp2_with fail
              refine HFS.out.mono ?_
              rintro e w5 ⟨rfl, hb5⟩
              have hb6 := hb5.alloc hb5.size (.cells l.arr 37)
              have hs5 : wv.heap.size < w5.heap.size := by have := hb5.size; simp at this; omega
              have r5 := (rowAt_below hb5 (b := wv.heap.size) (by simp) 0 34).trans (row_alloc wv m.arr 37 s1)
              go_wp2_with fail
              go_roundw
              case rel => exact ⟨i + 1, by omega, by go_num, by rw [HY.out hnot]; go_num, hbn.out.trans (hb6.mono (by have := hbn.out.size; simpa using this))⟩
              case measure => simp [intOf]; omega
        · obtain rfl : n4 = i := by omega
          have Dv := Lib.hid (Dw.out.later hbv)
          have Bv := Lib.hid (Bw.out.later hbv)
          have Mv := Lib.hid (Mw.out.below hbv)
          have hco := HC.out.come
          have hcnt := cnt_all (L := ms) HN.out
          have hsh2 := HSH.out
          rw [← hcnt] at hco hsh2
          generalize hv : cnt ms L n4 = v at *
          have hv1 : (v : Int) ≤ 1 := by omega
          obtain ⟨d0, d1, -⟩ := Dv.out
          obtain ⟨c0, c1, -⟩ := Bv.out
          have HG := Lib.hid HC.out.good
          have hg1 := HG1.out
          clear hcnt hco hv
          have hsh3 : (((n4 : Int) - n) == ((v : Int) - g)) = true := by rw [beq_iff_eq]; exact hsh2
          clear hsh2
          go_wp2_with fail
          refine (good_any (ep + 1) A2 n4 cap2 L _ Mv.out).mono ?_
          rw [HG.out]
          rintro e w8 ⟨rfl, hb8⟩
          obtain ⟨y0, y1, -⟩ := Dv.out.later hb8
          obtain ⟨z0, z1, -⟩ := Bv.out.later hb8
          have hw := hwe.out
          go_wp2_with fail
          go_ret
          refine ⟨?_, (since (since Iw.out.1 Iw.out.2 hbv).1 (since Iw.out.1 Iw.out.2 hbv).2 hb8).1⟩
          have hn1 := hn256.out
          have hn2 := hb4.out
          have e1 : wrap64 ((n4 : Int) - n) = (n4 : Int) - n := by unfold wrap64; omega
          rw [e1]
          simpa using hsh3

theorem steps_walk (ep : Int) (A : Option Addr) (n cap : Nat) (x : Chg) (w : World) (we : (Lit.int .i64 ep).wf = true) (hn : n ≤ maxLen) (hm : n ≤ 140737488355328 → ∃ ms, MS w A n ms) (hx : x.ok) :
    Calls Try.prog 7 #[.agg #[.int .i64 ep, .slice A n cap], .agg x.arr] w fun e w' => e = .returned (.bool true) ∧ Below w.heap.size w w' := by
  by_cases hl : n ≤ 256
  · obtain ⟨ms, h⟩ := hm (by omega)
    by_cases hE : appE ep ms x = 0
    · exact steps_good ep A n cap x ms w h hl hx hE
    · exact steps_bad ep A n cap x ms w h hl hx hE
  · exact steps_far ep A n cap hx w hl

set_option maxRecDepth 100000 in
theorem configSteps_lifted (os : Os) (started : os.Started) (H : Type) (enc : TypeId × Value → H) :
    ReturnsInHanded {} Try.checked os 7 .any (Rows.configStepsSpec.pre6 enc Try.prog Try.f7 Rows.configStepsRow.domain false) (Rows.configStepsSpec.post enc Try.prog Try.f7 false true false false) := by
  refine returnsInHanded_of_change (C := Try.checked) own started (by kernel_rfl) Try.func7
    (ChangeSpec.witness6 (enc := enc) (C := Try.checked) false ⟨#[], #[.agg #[.int .i64 0, .slice none 0 0], .agg Chg.zero.arr], []⟩ 8 (by kernel_rfl) (by kernel_rfl) (by kernel_rfl) (by kernel_rfl)) ?_
  intro W base args ds gs before hval0 hW hcnd _
  have hval : ∀ (j : Nat) t v, Try.f7.params[j]? = some t → args[j]? = some v → Value.okWide Try.prog W .any base t v := hval0
  have hW' := hW
  obtain ⟨p, q, hA0, hV, rfl, hfz, hnd⟩ := hW
  have hA : DataW.TrodAll enc Try.prog W 0 (fun _ => true) true Try.f7.params.toList args.toList ds p := hA0
  rw [Try.params7] at hA hval
  obtain ⟨v0, vs0, d0, ds0, p0, q0, hargs, rfl, rfl, h0, r0⟩ := trodAll_cons hA
  obtain ⟨v1, vs1, d1, ds1, p1, q1, rfl, rfl, rfl, h1, r1⟩ := trodAll_cons r0
  obtain ⟨rfl, rfl, rfl⟩ := trodAll_nil r1
  obtain rfl : args = #[v0, v1] := by cases args; simp_all
  obtain ⟨rfl, rfl⟩ := trodVars_none hV
  have k0 := h0
  have lt0 : ∀ x ∈ p0, x.block < W.heap.size := by obtain ⟨m, hm⟩ := k0; exact DataW.trod_lt m _ _ _ hm
  obtain ⟨e0, A0, n0, c0, rfl, we0, wn0, wm0⟩ := open_config (hval 0 24 v0 rfl rfl) h0
  have k1 := h1
  have lt1 : ∀ x ∈ p1, x.block < W.heap.size := by obtain ⟨m, hm⟩ := k1; exact DataW.trod_lt m _ _ _ hm
  obtain ⟨x1, rfl, wx1⟩ := open_change (hval 1 35 v1 rfl rfl) h1
  clear hA0 hval0
  refine (steps_walk e0 A0 n0 c0 x1 W we0 wn0 wm0 wx1).mono fun e W' ⟨he, bel⟩ => ?_
  subst he
  exact ⟨_, rfl, _, _, _, [], _, [], hW', trodAll_mk1 (shut_bool Try.underlying4 _), (trodAll_cons_mk (Below.trod laidOut (by kernel_rfl) (of_decide_eq_true (by kernel_rfl)) k0 bel lt0) (trodAll_cons_mk (Below.trod laidOut (by kernel_rfl) (of_decide_eq_true (by kernel_rfl)) k1 bel lt1) trodAll_mk0)), rfl, bel.frame _, fun h => by cases h⟩

theorem configSteps_holds : Rows.ConfigStepsSaid :=
  OpenClaim.holds_of_wide 7 Try.f7 rfl rfl rfl rfl rfl rfl rfl ⟨rfl, rfl, rfl, rfl, rfl⟩ rfl rfl rfl rfl rfl (by kernel_rfl) Try.func7 (by kernel_rfl)
    (of_decide_eq_true (by kernel_rfl)) (by unfold Func.isWrapper; first | (rw [if_pos (by decide +kernel)]; kernel_rfl) | (rw [if_neg (by decide +kernel)]; exact ⟨rfl, rfl⟩))
    (fun os started H enc _ => configSteps_lifted os started H enc)


end Go.Proofs.Ytmiaffgjfpjhfaa
