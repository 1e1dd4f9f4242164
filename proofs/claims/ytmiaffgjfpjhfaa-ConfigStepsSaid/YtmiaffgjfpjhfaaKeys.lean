/-
ConfigKeys: to exchange a member's key changes nothing else; to replace a member is to take it out, and to add the other one.
-/
import Derived.Test.YtmiaffgjfpjhfaaKey
import Derived.Test.YtmiaffgjfpjhfaaRows
import Derived.Deep.DeepCutAuto
namespace Go.Proofs.Ytmiaffgjfpjhfaa
open Go.ChangeShapes Go.WideShapes Go.ChangeAt Go.RowKit
set_option linter.unusedVariables false
set_option linter.unusedSimpArgs false

theorem up_lt {ms : List Mb} (h : Up ms) {i j : Nat} (hij : i < j) (hj : j < ms.length) : (ms.getD i default).id < (ms.getD j default).id := by
  rw [getD_at (by omega), getD_at hj]
  exact (List.pairwise_iff_getElem.1 h) _ _ _ _ hij
theorem posI_of {ms : List Mb} (h : Up ms) {id : Int} (hh : hasB ms id = true) : posI ms id < ms.length ∧ (ms.getD (posI ms id) default).id = id ∧ ∀ j, j < ms.length → j ≠ posI ms id → (ms.getD j default).id ≠ id := by
  obtain ⟨k, hk, hid⟩ := hasB_ex rfl hh
  have e : k = posI ms id := takeWhile_pos rfl (by omega) (fun j hj => by have := up_lt h hj hk; omega) (fun j hj hj2 => by
    rcases Nat.lt_or_ge k j with c | c
    · have := up_lt h c hj2; omega
    · rw [show j = k by omega]; omega)
  subst e
  refine ⟨hk, hid, fun j hj hne => ?_⟩
  rcases Nat.lt_or_ge j (posI ms id) with c | c
  · have := up_lt h c hk; omega
  · have := up_lt h (show posI ms id < j by omega) hj; omega
theorem erase_at {ms : List Mb} {p j : Nat} : (ms.eraseIdx p).getD j default = ms.getD (if j < p then j else j + 1) default := by
  rw [List.getD_eq_getElem?_getD, List.getD_eq_getElem?_getD, List.getElem?_eraseIdx]
  split <;> rfl
theorem posI_erase {ms : List Mb} (h : Up ms) {id : Int} (hh : hasB ms id = true) : posI (ms.eraseIdx (posI ms id)) id = posI ms id := by
  obtain ⟨h1, h2, h3⟩ := posI_of h hh
  have hl : (ms.eraseIdx (posI ms id)).length = ms.length - 1 := by rw [List.length_eraseIdx, if_pos h1]
  refine (takeWhile_pos hl (by omega) (fun j hj => ?_) (fun j hj hj2 => ?_)).symm
  · rw [erase_at, if_pos hj]
    have := up_lt h hj h1; omega
  · rw [erase_at, if_neg (by omega)]
    have := up_lt h (show posI ms id < j + 1 by omega) (by omega); omega
theorem rot_eq {ms : List Mb} (h : Up ms) {id : Int} (hh : hasB ms id = true) (key : Kb) : ins (ms.eraseIdx (posI ms id)) ⟨id, key⟩ = ms.set (posI ms id) ⟨id, key⟩ := by
  obtain ⟨h1, h2, h3⟩ := posI_of h hh
  unfold ins
  rw [show (Mb.mk id key).id = id from rfl, posI_erase h hh, List.set_eq_take_append_cons_drop, if_pos h1, eraseIdx_eq]
  congr 1
  · rw [List.take_append_of_le_length (by simp; omega), List.take_take, Nat.min_self]
  · congr 1
    rw [List.drop_append_of_le_length (by simp; omega), List.drop_of_length_le (by simp; omega), List.nil_append]
theorem good_erase {ep ep' : Int} {l : List Mb} (h : goodB ep l = true) (i : Nat) (hl : l.length ≠ 1) (h0 : 0 ≤ ep') (h1 : ep' ≤ 1073741824) : goodB ep' (l.eraseIdx i) = true := by
  obtain ⟨a, b, c⟩ := good_iff.1 h
  refine good_iff.2 ⟨⟨h0, h1, ?_, ?_⟩, fun m hm => b m (List.mem_of_mem_eraseIdx hm), c.sublist (List.eraseIdx_sublist ..)⟩
  · rw [List.length_eraseIdx]; split <;> omega
  · rw [List.length_eraseIdx]; split <;> omega
theorem hasB_erase {l : List Mb} {id : Int} (h : hasB l id = false) (i : Nat) : hasB (l.eraseIdx i) id = false :=
  hasB_no.2 fun m hm => hasB_no.1 h m (List.mem_of_mem_eraseIdx hm)

theorem small_ten {n : Nat} (h : n ≤ 10) : n ≤ 140737488355328 := by omega
set_option maxHeartbeats 2000000 in
theorem keys_far (ep : Int) (A : Option Addr) (n cap : Nat) (id other : Int) (key : Kb) (w : World) (hl : ¬ n ≤ 10 ∨ 536870912 < ep) :
    Calls Try.prog 5 #[.agg #[.int .i64 ep, .slice A n cap], .int .i64 id, .int .i64 other, .agg key.arr] w fun e w' => e = .returned (.bool true) ∧ Below w.heap.size w w' := by
  have hB := (alloc_below w (.cells #[.int .i64 ep, .slice A n cap] 24)).alloc (by simp) (.cells key.arr 33)
  have B0 := Lib.hid ((Box.start w ep A n cap).later (alloc_below _ (.cells key.arr 33)))
  have h1 : (10 : Int) < n ∨ (¬ (10 : Int) < n ∧ 536870912 < ep) := by omega
  clear hl
  rcases h1 with h1 | ⟨h1, h2⟩
  all_goals
    go_enter Try.func5, Try.ntmps5
    go_wp2_with fail
    refine (alive_any _).mono ?_
    rintro e w1 ⟨rfl, hb1⟩
    obtain ⟨c0, c1, -⟩ := B0.out.later hb1
    go_wp2_with fail
    go_ret
    exact ⟨rfl, hB.trans (hb1.mono (by simp; omega))⟩

set_option maxRecDepth 4000 in
set_option maxHeartbeats 4000000 in
theorem keys_near (ep : Int) (A : Option Addr) (n cap : Nat) (id other : Int) (key : Kb) (ms : List Mb) (w : World) (h : MS w A n ms) (hl : n ≤ 10) (he : ep ≤ 536870912) (wi : (Lit.int .i64 id).wf = true) (wo : (Lit.int .i64 other).wf = true) (hk : key.ok) :
    Calls Try.prog 5 #[.agg #[.int .i64 ep, .slice A n cap], .int .i64 id, .int .i64 other, .agg key.arr] w fun e w' => e = .returned (.bool true) ∧ Below w.heap.size w w' := by
  have hB := (alloc_below w (.cells #[.int .i64 ep, .slice A n cap] 24)).alloc (by simp) (.cells key.arr 33)
  have B0 := Lib.hid ((Box.start w ep A n cap).later (alloc_below _ (.cells key.arr 33)))
  have H := Lib.hid (h.below hB)
  have rk := Lib.hid (row_alloc (w.alloc (.cells #[.int .i64 ep, .slice A n cap] 24)) key.arr 33 (Kb.sz hk))
  have h1 : ¬ (10 : Int) < n := by omega
  have h2 : ¬ 536870912 < ep := by omega
  have HL := Lib.hid h.len
  have hx4 := Lib.hid (chg_ok wf_four wi wf_zero hk)
  have hx3 := Lib.hid (chg_ok wf_three wi wo hk)
  have hx2 := Lib.hid (chg_ok wf_two wi wf_zero Kb.zero_ok)
  have hx1 := Lib.hid (chg_ok wf_one wo wf_zero hk)
  have hn10 := Lib.hid hl
  have hep := Lib.hid he
  clear h hl he
  go_enter Try.func5, Try.ntmps5
  go_wp2_with fail
  refine (alive_any _).mono ?_
  rintro e w1 ⟨rfl, hb1⟩
  have H1 := Lib.hid (H.out.below hb1)
  have B1 := Lib.hid (B0.out.later hb1)
  obtain ⟨c0, c1, ch⟩ := B1.out
  have rk1 := (rowAt_below hb1 (b := w.heap.size + 1) (by simp) 0 33).trans (by have := rk.out; simpa using this)
  go_wp2_with fail
  refine (apply_any ep A n cap ms ⟨4, id, 0, key⟩ _ H1.out hx4.out).mono fun e w2 h2' => ?_
  have hr4 : appE ep ms ⟨4, id, 0, key⟩ = 0 → n = ms.length ∧ appR ep ms ⟨4, id, 0, key⟩ = ms.set (posI ms id) ⟨id, key⟩ ∧ Up ms ∧ hasB ms id = true := fun h0 => by
    obtain ⟨⟨hg, -⟩, -, hh, -⟩ := appE_zero h0
    have hh := hh (show (4 : Int) ≠ 1 by decide)
    have hu := (good_iff.1 hg).2.2
    exact ⟨HL.out.symm, (appR_rot h0 rfl).trans (rot_eq hu hh key), hu, hh⟩
  have hlen4 := appR_len ep ms ⟨4, id, 0, key⟩
  rw [HL.out] at hlen4
  generalize appE ep ms ⟨4, id, 0, key⟩ = E4 at *
  generalize appR ep ms ⟨4, id, 0, key⟩ = L4 at *
  obtain ⟨A2, cap2, rfl, M2, -, hb2⟩ := h2'.any (by have := hn10.out; omega)
  generalize (if E4 = 0 then ep + 1 else 0) = e4
  obtain ⟨n4, hn4⟩ : ∃ k, L4.length = k := ⟨_, rfl⟩
  rw [hn4] at M2 ⊢
  have HR4 := Lib.hid hr4
  have hb3 := hb2.alloc hb2.size (.cells #[.int .i64 e4, .slice A2 n4 cap2] 24)
  have M3 := Lib.hid (M2.below (alloc_below w2 (.cells #[.int .i64 e4, .slice A2 n4 cap2] 24)))
  have D3 := Lib.hid (Box.start w2 e4 A2 n4 cap2)
  have B3 := Lib.hid (B1.out.later hb3)
  have H3 := Lib.hid (H1.out.below hb3)
  have rk3 := Lib.hid ((rowAt_below hb3 (b := w.heap.size + 1) (by have := hb1.size; simp at this; omega) 0 33).trans rk1)
  obtain ⟨d0, d1, dh⟩ := D3.out
  have hw1 : w.heap.size + 1 < w2.heap.size := by have := hb1.size; have := hb2.size; simp at *; omega
  have I3 := Lib.hid (since (since hB (by simp; omega) hb1).1 (since hB (by simp; omega) hb1).2 hb3)
  clear M2 c0 c1 rk1 h2' hr4 hlen4 hb3 h1 h2
  obtain ⟨b4, hb4⟩ : ∃ b, (E4 == 0) = b := ⟨_, rfl⟩
  go_upto_if 39 with fail
  generalize hW3 : w2.alloc (.cells #[.int .i64 e4, .slice A2 n4 cap2] 24) = W3 at *
  clear hW3
  have hw3 : w2.heap.size < W3.heap.size := dh
  go_cut [11, 12, 13] (fun s11 s12 s13 wx => Below W3.heap.size W3 wx)
  case first =>
    cases b4 with
    | true =>
      have h0 : E4 = 0 := by simpa using hb4
      obtain ⟨e1, hL4, hu, hh⟩ := HR4.out h0
      obtain ⟨q1, q2, q3⟩ := posI_of hu hh
      have hlen : n4 = n := by rw [← hn4, hL4, List.length_set]; exact e1.symm
      subst hlen
      have hAt : ∀ k, k < n4 → (k = posI ms id ∧ L4.getD k default = ⟨id, key⟩ ∧ (ms.getD k default).id = id) ∨ (L4.getD k default = ms.getD k default ∧ (ms.getD k default).id ≠ id) := by
        intro k hk'
        rcases Classical.em (k = posI ms id) with e | e
        · refine .inl ⟨e, ?_, by rw [e]; exact q2⟩
          rw [hL4, e, List.getD_eq_getElem?_getD, List.getElem?_set_self q1]; rfl
        · refine .inr ⟨?_, q3 k (by omega) e⟩
          rw [hL4, List.getD_eq_getElem?_getD, List.getElem?_set_ne (Ne.symm e), ← List.getD_eq_getElem?_getD]
      have HAt := Lib.hid hAt
      clear hAt q1 q2 q3 hL4 e1 HR4 hh hu h0 hb4 hn4
      go_wp2_with fail
      go_loopw [43, 11, 12, 13] (fun t s11 s12 s13 wr => ∃ k : Nat, k ≤ n4 ∧ t = .int .i64 k ∧ Below W3.heap.size W3 wr) (fun t _ _ _ _ => n4 - (intOf t).toNat)
      case atStart => exact ⟨0, by omega, rfl, Below.refl _ _⟩
      case round =>
        obtain ⟨k, hk', rfl, hbw⟩ := hrel
        by_cases hlt : k < n4
        · obtain ⟨b2, o2, hA2, hlt2, hrow2⟩ := M3.out.mem (by omega)
          obtain ⟨b1, o1, hA1, hlt1, hrow1⟩ := H3.out.mem (by omega)
          subst hA2; subst hA1
          have hm2 := M3.out.okAt hlt
          have hm1 := H3.out.okAt hlt
          have r2 := (rowAt_below hbw hlt2 _ _).trans (hrow2 k hlt)
          have r1 := (rowAt_below hbw hlt1 _ _).trans (hrow1 k hlt)
          have hcs := HAt.out k hlt
          clear hrow1 hrow2
          generalize L4.getD k default = m at *
          generalize ms.getD k default = was at *
          have hws := hbw.size
          have u1 := alloc_below wr (.cells m.arr 37)
          have u2 := u1.alloc u1.size (.cells was.arr 37)
          have Br := Lib.hid (B3.out.later hbw)
          obtain ⟨cr0, cr1, -⟩ := Br.out
          obtain ⟨cs0, cs1, -⟩ := Br.out.later u1
          have r1' := (rowAt_below u1 (b := b1) (by omega) (o1 + k * 34) 34).trans r1
          have rk4 := (rowAt_below u2 (b := w.heap.size + 1) (by omega) 0 33).trans ((rowAt_below hbw (b := w.heap.size + 1) (by omega) 0 33).trans rk3.out)
          have e1 : ((wr.alloc (.cells m.arr 37)).alloc (.cells was.arr 37)).heap[wr.heap.size]? = some (.cells m.arr 37 (0, 0)) := (Below.heap_alloc _ _ _ (by simp)).trans (heap_alloc_new _ _)
          have e2 : ((wr.alloc (.cells m.arr 37)).alloc (.cells was.arr 37)).heap[wr.heap.size + 1]? = some (.cells was.arr 37 (0, 0)) := by have := heap_alloc_new (wr.alloc (.cells m.arr 37)) (.cells was.arr 37); simpa using this
          have f1 := cell_of_row e1 m.at0
          have f2 := cell_of_row e2 was.at0
          have f3 : rowAt ((wr.alloc (.cells m.arr 37)).alloc (.cells was.arr 37)) wr.heap.size 1 33 = some m.key.arr := by unfold rowAt; rw [e1]; exact Mb.cutKey hm2
          have f4 : rowAt ((wr.alloc (.cells m.arr 37)).alloc (.cells was.arr 37)) (wr.heap.size + 1) 1 33 = some was.key.arr := by unfold rowAt; rw [e2]; exact Mb.cutKey hm1
          have s1 := Mb.sz hm1
          have s2 := Mb.sz hm2
          have s3 := m.ones
          have s4 := was.ones
          have p1 := m.at0
          have p2 := was.at0
          have hk0 : (0 : Int) ≤ k := by omega
          have hk1 : (k : Int) < n4 := by omega
          have hwr : wrap64 ((k : Int) + 1) = k + 1 := wrap_succ hlt (small_ten hn10.out)
          have hbn := hbw.trans (u2.mono hws)
          clear e1 e2 hws u1 u2
          rcases hcs with ⟨hkp, hm, hwas⟩ | ⟨hm, hwas⟩
          · subst hm
            obtain ⟨wid, wk⟩ := was
            obtain rfl : wid = id := hwas
            have hne := run_neRowK hk hk
            simp only [decide_true, Bool.not_true] at hne
            clear hkp
            go_wp2_with fail
            go_roundw
            case rel => exact ⟨k + 1, by omega, by go_num, hbn⟩
            case measure => simp [intOf]; omega
          · subst hm
            have g1 : (m.id == id) = false := beq_eq_false_iff_ne.2 hwas
            have hne := run_neRowK hm1.key hm1.key
            simp only [decide_true, Bool.not_true] at hne
            have hwas' : ¬ m.id = id := hwas
            clear hwas
            go_wp2_with fail
            go_roundw
            case rel => exact ⟨k + 1, by omega, by go_num, hbn⟩
            case measure => simp [intOf]; omega
        · go_wp2_with fail
          go_meet
          case rel => exact hbw
    | false =>
      clear HR4 hb4 hn4
      go_wp2_with fail
      go_meet
      case rel => exact Below.refl _ _
  case rest =>
    have Ic := Lib.hid (since I3.out.1 I3.out.2 hcut)
    have Hc := Lib.hid (H3.out.below hcut)
    have Bc := Lib.hid (B3.out.later hcut)
    have rkc := (rowAt_below hcut (b := w.heap.size + 1) (by omega) 0 33).trans rk3.out
    have hwc : w.heap.size + 1 < wc.heap.size := by have := hcut.size; omega
    obtain ⟨g0, g1, gh⟩ := Bc.out
    clear d0 d1 hb4 HR4 hn4 M3 D3
    go_wp2_with fail
    refine (apply_any ep A n cap ms ⟨3, id, other, key⟩ _ Hc.out hx3.out).mono fun e w5 h5 => ?_
    have hr3 : appE ep ms ⟨3, id, other, key⟩ = 0 → goodB ep ms = true ∧ rightB ⟨other, key⟩ = true ∧ hasB ms other = false ∧ appR ep ms ⟨3, id, other, key⟩ = ins (ms.eraseIdx (posI ms id)) ⟨other, key⟩ := fun h0 => by
      obtain ⟨⟨hg, -⟩, h1, -, h2, -⟩ := appE_zero h0
      exact ⟨hg, h1 (show (3 : Int) ≠ 2 by decide), h2 (.inr rfl), appR_rep h0 rfl⟩
    have hlen3 := appR_len ep ms ⟨3, id, other, key⟩
    rw [HL.out] at hlen3
    generalize appE ep ms ⟨3, id, other, key⟩ = E5 at *
    generalize appR ep ms ⟨3, id, other, key⟩ = L5 at *
    obtain ⟨A5, cap5, rfl, M5, -, hb5⟩ := h5.any (by have := hn10.out; omega)
    generalize (if E5 = 0 then ep + 1 else 0) = e5
    obtain ⟨n5, hn5⟩ : ∃ k, L5.length = k := ⟨_, rfl⟩
    rw [hn5] at M5 ⊢
    have HR5 := Lib.hid hr3
    have HN5 := Lib.hid hn5
    have hnb := Lib.hid (show n5 ≤ 11 by have := hn10.out; omega)
    have hb6 := hb5.alloc hb5.size (.cells #[.int .i64 e5, .slice A5 n5 cap5] 24)
    have M6 := Lib.hid (M5.below (alloc_below w5 (.cells #[.int .i64 e5, .slice A5 n5 cap5] 24)))
    have D6 := Lib.hid (Box.start w5 e5 A5 n5 cap5)
    have B6 := Lib.hid (Bc.out.later hb6)
    have H6 := Lib.hid (Hc.out.below hb6)
    have rk6 := Lib.hid ((rowAt_below hb6 (b := w.heap.size + 1) hwc 0 33).trans rkc)
    have I6 := Lib.hid (since Ic.out.1 Ic.out.2 hb6)
    have hw6 : w.heap.size + 1 < (w5.alloc (.cells #[.int .i64 e5, .slice A5 n5 cap5] 24)).heap.size := Nat.lt_of_lt_of_le hwc hb6.size
    obtain ⟨p0, p1, ph⟩ := B6.out
    have d6 : w5.heap.size < (w5.alloc (.cells #[.int .i64 e5, .slice A5 n5 cap5] 24)).heap.size := by simp
    clear g0 g1 M5 h5 hr3 hlen3 hn5 rkc
    go_wp2_with fail
    refine (apply_any ep A n cap ms ⟨2, id, 0, Kb.zero⟩ _ H6.out hx2.out).mono fun e w7 h7 => ?_
    have hr2 : appE ep ms ⟨2, id, 0, Kb.zero⟩ = 0 → ms.length ≠ 1 ∧ hasB ms id = true ∧ appR ep ms ⟨2, id, 0, Kb.zero⟩ = ms.eraseIdx (posI ms id) := fun h0 => by
      obtain ⟨-, -, h1, -, -, h2⟩ := appE_zero h0
      exact ⟨h2 rfl, h1 (show (2 : Int) ≠ 1 by decide), appR_del h0 rfl⟩
    have hlen2 := appR_len ep ms ⟨2, id, 0, Kb.zero⟩
    rw [HL.out] at hlen2
    generalize appE ep ms ⟨2, id, 0, Kb.zero⟩ = E7 at *
    generalize appR ep ms ⟨2, id, 0, Kb.zero⟩ = L7 at *
    obtain ⟨A7, cap7, rfl, M7, -, hb7⟩ := h7.any (by have := hn10.out; omega)
    obtain ⟨e7, he7⟩ : ∃ k, (if E7 = 0 then ep + 1 else 0) = k := ⟨_, rfl⟩
    rw [he7]
    obtain ⟨n7, hn7⟩ : ∃ k, L7.length = k := ⟨_, rfl⟩
    rw [hn7] at M7 ⊢
    have HR7 := Lib.hid hr2
    have HN7 := Lib.hid hn7
    have HE7 := Lib.hid he7
    have hb8 := hb7.alloc hb7.size (.cells #[.int .i64 e7, .slice A7 n7 cap7] 24)
    have M8 := Lib.hid (M7.below (alloc_below w7 (.cells #[.int .i64 e7, .slice A7 n7 cap7] 24)))
    have D8 := Lib.hid (Box.start w7 e7 A7 n7 cap7)
    have R8 := Lib.hid (D6.out.later hb8)
    have N8 := Lib.hid (M6.out.below hb8)
    have rk8 := Lib.hid ((rowAt_below hb8 (b := w.heap.size + 1) hw6 0 33).trans rk6.out)
    have I8 := Lib.hid (since I6.out.1 I6.out.2 hb8)
    have hw8 : w.heap.size + 1 < (w7.alloc (.cells #[.int .i64 e7, .slice A7 n7 cap7] 24)).heap.size := Nat.lt_of_lt_of_le hw6 hb8.size
    obtain ⟨q0, q1, qh⟩ := D8.out
    clear p0 p1 M7 h7 hr2 hlen2 hn7 he7
    obtain ⟨b5, hb5'⟩ : ∃ b, (E5 == 0) = b := ⟨_, rfl⟩
    obtain ⟨b7, hb7'⟩ : ∃ b, (E7 == 0) = b := ⟨_, rfl⟩
    cases b5 with
    | false =>
      have h0 : (E5 != 0) = true := by unfold bne; rw [hb5']; rfl
      clear hb7'
      go_wp2_with fail
      go_ret
      exact ⟨rfl, I8.out.1⟩
    | true =>
      have h0 : (E5 != 0) = false := by unfold bne; rw [hb5']; rfl
      cases b7 with
      | false =>
        have h1 : (E7 != 0) = true := by unfold bne; rw [hb7']; rfl
        go_wp2_with fail
        go_ret
        exact ⟨rfl, I8.out.1⟩
      | true =>
        have h1 : (E7 != 0) = false := by unfold bne; rw [hb7']; rfl
        have z5 : E5 = 0 := by simpa using hb5'
        have z7 : E7 = 0 := by simpa using hb7'
        obtain ⟨hg, hri, hno, hL5⟩ := HR5.out z5
        obtain ⟨hne, hhas, hL7⟩ := HR7.out z7
        have he7 := HE7.out
        rw [if_pos z7] at he7
        have hge := good_iff.1 hg
        have hup := hge.2.2
        have hgb := hge.1
        have hpos := posI_of hup hhas
        have hl7 : L7.length = ms.length - 1 := by rw [hL7, List.length_eraseIdx, if_pos hpos.1]
        have G7 : goodB e7 L7 = true := by rw [hL7]; exact good_erase hg _ hne (by omega) (by have := hep.out; omega)
        have hE9 := Lib.hid (appE_ok (ep := e7) (ms := L7) (x := ⟨1, other, 0, key⟩) ⟨G7, show (1 : Int) ≤ 1 by decide, show (1 : Int) ≤ 4 by decide, by have := hep.out; omega⟩ (fun _ => hri) (fun h => absurd rfl h) (fun _ => by rw [hL7]; exact hasB_erase hno _) (fun _ => by omega) (fun h => by cases h))
        have hL9 := Lib.hid (show appR e7 L7 ⟨1, other, 0, key⟩ = L5 from (appR_add hE9.out rfl).trans (by rw [hL5, hL7]))
        have rk8' := rk8.out
        have HS := Lib.hid (show sameB 0 L5 0 L5 = true by unfold sameB; simp)
        clear hg hri hno hL5 hne hhas hL7 he7 hge hup hgb hpos hl7 G7 z5 z7 HR5 HR7 HE7
        go_wp2_with fail
        refine (apply_any e7 A7 n7 cap7 L7 ⟨1, other, 0, key⟩ _ M8.out hx1.out).mono fun e w9 h9 => ?_
        rw [hE9.out, hL9.out] at h9
        obtain ⟨A9, cap9, rfl, M9, -, hb9⟩ := h9.yes HN5.out (by have := hnb.out; omega)
        have hb10 := hb9.alloc hb9.size (.cells #[.int .i64 (e7 + 1), .slice A9 n5 cap9] 24)
        have M10 := Lib.hid (M9.below (alloc_below w9 (.cells #[.int .i64 (e7 + 1), .slice A9 n5 cap9] 24)))
        have D10 := Lib.hid (Box.start w9 (e7 + 1) A9 n5 cap9)
        have R10 := Lib.hid (R8.out.later hb10)
        have N10 := Lib.hid (N8.out.below hb10)
        have I10 := Lib.hid (since I8.out.1 I8.out.2 hb10)
        obtain ⟨r0, r1, rh⟩ := R10.out
        obtain ⟨y0, y1, yh⟩ := D10.out
        clear M9 q0 q1 rk8' h9
        go_wp2_with fail
        refine (same_any 0 0 A5 A9 n5 cap5 n5 cap9 L5 L5 _ N10.out M10.out).mono ?_
        rw [HS.out]
        rintro e w12 ⟨rfl, hb12⟩
        go_wp2_with fail
        go_ret
        exact ⟨rfl, (since I10.out.1 I10.out.2 hb12).1⟩

theorem keys_walk (ep : Int) (A : Option Addr) (n cap : Nat) (id other : Int) (key : Kb) (w : World) (we : (Lit.int .i64 ep).wf = true) (hn : n ≤ maxLen) (hm : n ≤ 140737488355328 → ∃ ms, MS w A n ms) (wi : (Lit.int .i64 id).wf = true) (wo : (Lit.int .i64 other).wf = true) (hk : key.ok) :
    Calls Try.prog 5 #[.agg #[.int .i64 ep, .slice A n cap], .int .i64 id, .int .i64 other, .agg key.arr] w fun e w' => e = .returned (.bool true) ∧ Below w.heap.size w w' := by
  by_cases hl : n ≤ 10 ∧ ep ≤ 536870912
  · obtain ⟨ms, h⟩ := hm (by omega)
    exact keys_near ep A n cap id other key ms w h hl.1 hl.2 wi wo hk
  · exact keys_far ep A n cap id other key w (by omega)

set_option maxRecDepth 100000 in
theorem configKeys_lifted (os : Os) (started : os.Started) (H : Type) (enc : TypeId × Value → H) :
    ReturnsInHanded {} Try.checked os 5 .any (Rows.configKeysSpec.pre6 enc Try.prog Try.f5 Rows.configKeysRow.domain false) (Rows.configKeysSpec.post enc Try.prog Try.f5 false true false false) := by
  refine returnsInHanded_of_change (C := Try.checked) own started (by kernel_rfl) Try.func5
    (ChangeSpec.witness6 (enc := enc) (C := Try.checked) false ⟨#[], #[.agg #[.int .i64 0, .slice none 0 0], .int .i64 0, .int .i64 0, .agg Kb.zero.arr], []⟩ 8 (by kernel_rfl) (by kernel_rfl) (by kernel_rfl) (by kernel_rfl)) ?_
  intro W base args ds gs before hval0 hW hcnd _
  have hval : ∀ (j : Nat) t v, Try.f5.params[j]? = some t → args[j]? = some v → Value.okWide Try.prog W .any base t v := hval0
  have hW' := hW
  obtain ⟨p, q, hA0, hV, rfl, hfz, hnd⟩ := hW
  have hA : DataW.TrodAll enc Try.prog W 0 (fun _ => true) true Try.f5.params.toList args.toList ds p := hA0
  rw [Try.params5] at hA hval
  obtain ⟨v0, vs0, d0, ds0, p0, q0, hargs, rfl, rfl, h0, r0⟩ := trodAll_cons hA
  obtain ⟨v1, vs1, d1, ds1, p1, q1, rfl, rfl, rfl, h1, r1⟩ := trodAll_cons r0
  obtain ⟨v2, vs2, d2, ds2, p2, q2, rfl, rfl, rfl, h2, r2⟩ := trodAll_cons r1
  obtain ⟨v3, vs3, d3, ds3, p3, q3, rfl, rfl, rfl, h3, r3⟩ := trodAll_cons r2
  obtain ⟨rfl, rfl, rfl⟩ := trodAll_nil r3
  obtain rfl : args = #[v0, v1, v2, v3] := by cases args; simp_all
  obtain ⟨rfl, rfl⟩ := trodVars_none hV
  have k0 := h0
  have lt0 : ∀ x ∈ p0, x.block < W.heap.size := by obtain ⟨m, hm⟩ := k0; exact DataW.trod_lt m _ _ _ hm
  obtain ⟨e0, A0, n0, c0, rfl, we0, wn0, wm0⟩ := open_config (hval 0 24 v0 rfl rfl) h0
  obtain ⟨a1, rfl, rfl, rfl, w1⟩ := open_int Try.underlying3 (hval 1 3 v1 rfl rfl) h1
  obtain ⟨a2, rfl, rfl, rfl, w2⟩ := open_int Try.underlying3 (hval 2 3 v2 rfl rfl) h2
  have k3 := h3
  have lt3 : ∀ x ∈ p3, x.block < W.heap.size := by obtain ⟨m, hm⟩ := k3; exact DataW.trod_lt m _ _ _ hm
  obtain ⟨x3, rfl, wx3⟩ := open_key (hval 3 33 v3 rfl rfl) h3
  clear hA0 hval0
  refine (keys_walk e0 A0 n0 c0 a1 a2 x3 W we0 wn0 wm0 w1 w2 wx3).mono fun e W' ⟨he, bel⟩ => ?_
  subst he
  exact ⟨_, rfl, _, _, _, [], _, [], hW', trodAll_mk1 (shut_bool Try.underlying4 _), (trodAll_cons_mk (Below.trod laidOut (by kernel_rfl) (of_decide_eq_true (by kernel_rfl)) k0 bel lt0) (trodAll_cons_mk (shut_int Try.underlying3 w1) (trodAll_cons_mk (shut_int Try.underlying3 w2) (trodAll_cons_mk (Below.trod laidOut (by kernel_rfl) (of_decide_eq_true (by kernel_rfl)) k3 bel lt3) trodAll_mk0)))), rfl, bel.frame _, fun h => by cases h⟩

theorem configKeys_holds : Rows.ConfigKeysSaid :=
  OpenClaim.holds_of_wide 5 Try.f5 rfl rfl rfl rfl rfl rfl rfl ⟨rfl, rfl, rfl, rfl, rfl⟩ rfl rfl rfl rfl rfl (by kernel_rfl) Try.func5 (by kernel_rfl)
    (of_decide_eq_true (by kernel_rfl)) (by unfold Func.isWrapper; first | (rw [if_pos (by decide +kernel)]; kernel_rfl) | (rw [if_neg (by decide +kernel)]; exact ⟨rfl, rfl⟩))
    (fun os started H enc _ => configKeys_lifted os started H enc)


end Go.Proofs.Ytmiaffgjfpjhfaa
