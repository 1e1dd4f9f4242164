/-
Apply at the other kinds.
-/
import Derived.Test.YtfnfgnhbnffagaaDoorZApply
namespace Go.Proofs.YtfnfgnhbnffagaaDoor
open Go.RowKit
set_option linter.unusedVariables false
set_option maxRecDepth 100000

theorem set_id (i j : Int) (k : Kb) : (Mb.arr ⟨i, k⟩).setIfInBounds 0 (.int .i64 j) = Mb.arr ⟨j, k⟩ := by
  simp [Mb.arr, Mb.cells]
theorem n_pos {ep : Int} {ms : List Mb} {n : Nat} (hn : ms.length = n) (h : goodB ep ms = true) : 0 < n := by
  unfold goodB at h; rw [Bool.and_eq_true, decide_eq_true_eq] at h; omega
theorem n_ten {ep : Int} {ms : List Mb} {n : Nat} (hn : ms.length = n) (h : goodB ep ms = true) : n ≤ 10 := by
  unfold goodB at h; rw [Bool.and_eq_true, decide_eq_true_eq] at h; omega
theorem small_one {n : Nat} (h : n ≤ 10) : (n + 1) * 48 ≤ 140737488355328 := by omega
theorem small_two {n : Nat} (h : n ≤ 10) : n + 1 ≤ 140737488355328 := by omega

set_option maxHeartbeats 2000000 in
theorem apply_1 (ep : Int) (A : Option Addr) (n cap : Nat) (ms : List Mb) (id nw : Int) (key : Kb) (w : World) (h : MS w A n ms) (hx : (Chg.mk 1 id nw key).ok) (hg : goodB ep ms = true) (he : ep ≠ 1073741824)
    (hA : A = none → n = 0) (hs : ∀ a, A = some a → a.spot = none) (hb : n * 48 ≤ 140737488355328) (e0 : 0 ≤ ep) (e1 : ep ≤ 1073741824) :
    Calls Tryd.prog 50 #[.agg #[.int .i64 ep, .slice A n cap], .agg (Chg.mk 1 id nw key).arr] w (Applied ep (appE ep ms ⟨1, id, nw, key⟩) (appR ep ms ⟨1, id, nw, key⟩) w) := by
  generalize hX : Chg.mk 1 id nw key = x at *
  have hk : x.kind = 1 := by rw [← hX]
  have hB := ((((Below.refl w.heap.size w).alloc (Nat.le_refl _) (.cells #[.int .i64 ep, .slice A n cap] 26)).alloc (by simp) (.cells x.arr 42)).alloc (by simp; omega) (.cells #[.int .i64 0, .slice none 0 0] 26))
  have H := Lib.hid (h.below hB)
  have I0 := Ap.start w ep A n cap hx
  have hne : (ep == 1073741824) = false := by rw [beq_eq_false_iff_ne]; exact he
  have hne' := Lib.hid he
  have hw : wrap64 (ep + 1) = ep + 1 := by unfold wrap64; omega
  have hok := Lib.hid (show OkAll ms from h.ok)
  have hlen := Lib.hid h.len
  have hb48 := Lib.hid hb
  have HR := Lib.hid (rising_of_good h.len hg)
  have hsm := Lib.hid h.small
  have hwi : IntKind.i64.wrap (ep + 1) = ep + 1 := by rw [IntKind.wrap_i64]; omega
  clear h he
  go_enter Tryd.func50, Tryd.ntmps50
  go_wp2_with fail
  refine (good_any ep A n cap ms _ H.out).mono ?_
  rw [hg]
  rintro e w1 ⟨rfl, hb1⟩
  have H1 := Lib.hid (H.out.below hb1)
  have I1 := Lib.hid (I0.later hb1)
  obtain ⟨c0, c1, x0, x1, x2, xk, r0, r1, f0, f1, sz⟩ := I0.later hb1
  rw [hk] at x0
  have hB1 := hB.trans (hb1.mono (by simp; omega))
  have ne1 : ¬ w1.heap.size = w.heap.size := by omega
  have ne2 : ¬ w.heap.size = w1.heap.size := by omega
  clear I0 hB
  go_upto_region 3 with fail
  go_cut [6] (fun s6 wx => Begun ep A n cap x ms w s6 wx)
  case first =>
    go_region_held3 (fun w' => w'.cell? ⟨w.heap.size, 0, none⟩ = some (.int .i64 ep) ∧ w'.cell? ⟨w.heap.size, 1, none⟩ = some (.slice A n cap)) (first | exact ⟨c0, c1⟩ | exact ⟨c0', c1'⟩ | go_keep)
      (first
        | (go_at_call 62; refine (clone_any A n cap ms _ (H1.out.below (Below.refl _ _).drew) hb hA hs).mono ?_; rintro e w2 ⟨v, rfl, hown, hb2⟩; obtain ⟨A2, cap2, rfl, -⟩ := MS_of_own hown hok.out hsm.out; have HO := Lib.hid hown; clear hown
           have c0' := (hb2.cell (p := ⟨w.heap.size, 0, none⟩) (by simp; omega)).trans c0; have c1' := (hb2.cell (p := ⟨w.heap.size, 1, none⟩) (by simp; omega)).trans c1)
        | (go_at_call 62; refine (clone_any A n cap ms _ (H1.out.below ((Below.refl _ _).drew.alloc (by simp) _)) hb hA hs).mono ?_; rintro e w2 ⟨v, rfl, hown, hb2⟩; obtain ⟨A2, cap2, rfl, -⟩ := MS_of_own hown hok.out hsm.out; have HO := Lib.hid hown; clear hown
           have c0' := (hb2.cell (p := ⟨w.heap.size, 0, none⟩) (by simp; omega)).trans (show _ = some (Value.int .i64 ep) by rw [World.cell?_alloc_past _ _ _ (by simp; omega)]; exact c0); have c1' := (hb2.cell (p := ⟨w.heap.size, 1, none⟩) (by simp; omega)).trans (show _ = some (Value.slice A n cap) by rw [World.cell?_alloc_past _ _ _ (by simp; omega)]; exact c1)
           have o0 := (hb2.cell (p := ⟨w1.heap.size, 0, none⟩) (by simp)).trans (World.cell?_alloc_at _ _ _ _ rfl)
           have o1 := (hb2.cell (p := ⟨w1.heap.size, 1, none⟩) (by simp)).trans (World.cell?_alloc_at _ _ _ _ rfl)
           have p0 := (hb2.frozen (p := ⟨w1.heap.size, 0, none⟩) (by simp)).trans (World.frozen?_alloc_at _ _ _ _ rfl)
           have p1 := (hb2.frozen (p := ⟨w1.heap.size, 1, none⟩) (by simp)).trans (World.frozen?_alloc_at _ _ _ _ rfl)
           simp at o0 o1 p0 p1))
    all_goals (go_wp2_with fail; go_meet; case rel => first | exact begun_1 I1.out H1.out hB1 HO.out hb2 | exact begun_2 I1.out H1.out hB1 HO.out hb2 o0 o1 p0 p1 ⟨_, rfl⟩)

  case rest =>
    clear c0 c1 x0 x1 x2 xk r0 r1 f0 f1 sz I1 H1 hB1 ne1 ne2 hb1 H hb e0 e1 hw hwi hne
    obtain ⟨O, v, rfl, I, M, U⟩ := hcut
    obtain ⟨A2, cap2, rfl, M2⟩ := MS_of_own U.own hok.out hsm.out
    have S4 := St.start I U (Mb.mk x.id x.key)
    have M4 := M.below ((Below.refl wc.heap.size wc).alloc (Nat.le_refl _) (.cells (Mb.mk x.id x.key).arr 60))
    obtain ⟨c0, c1, x0, x1, x2, xk, r0, r1, f0, f1, sz⟩ := I
    rw [hk] at x0
    have hmo : (Mb.mk x.id x.key).ok := ⟨hx.key, hx.id⟩
    have hms := Mb.sz hmo
    have hmi := Mb.ones (Mb.mk x.id x.key)
    have hkk := hx.key
    clear M U M2
    obtain ⟨⟨c0, c1, x0, x1⟩, ⟨r0, r1, f0, f1⟩, ⟨o0, o1, g0, g1⟩, m0, mr⟩ := S4.facts hmo
    rw [hk] at x0
    go_wp2_with fail
    refine (right_any hmo _).mono ?_
    rintro e w5 ⟨rfl, hb5⟩
    have S5 := S4.later hb5
    have M5 := Lib.hid (M4.below hb5)
    clear c0 c1 x0 x1 r0 r1 f0 f1 o0 o1 g0 g1 m0 mr
    obtain ⟨⟨c0, c1, x0, x1⟩, ⟨r0, r1, f0, f1⟩, ⟨o0, o1, g0, g1⟩, m0, mr⟩ := S5.facts hmo
    rw [hk] at x0
    clear S4 M4 hb5
    cases hr : rightB (Mb.mk x.id x.key) with
    | false =>
      go_wp2_with fail
      refine bodyPost_ret (v := .tuple #[.agg #[.int .i64 0, .slice none 0 0], .int .i64 1]) (by rw [results_cell2 Tryd.results50]; simp [go_sem, *]) rfl ?_
      have hE : appE ep ms x = 1 := by unfold appE memOf; rw [hk]; simp [hr]
      unfold appR; rw [hE]
      exact applied_not S5.U.bel (by decide)
    | true =>
      have hr2 := hr
      unfold rightB at hr2
      simp only [decide_eq_true_eq] at hr2
      go_wp2_with fail
      refine (find_p ep A n cap ms x.id _ M5.out HR.out hx.id).mono ?_
      rintro e w6 ⟨i, rfl, hi6, hin6, hp6, hb6⟩
      have S6 := S5.later hb6
      have M6 := Lib.hid (M5.out.below hb6)
      clear c0 c1 x0 x1 r0 r1 f0 f1 o0 o1 g0 g1 m0 mr
      obtain ⟨⟨c0, c1, x0, x1⟩, ⟨r0, r1, f0, f1⟩, ⟨o0, o1, g0, g1⟩, m0, mr⟩ := S6.facts hmo
      rw [hk] at x0
      clear S5 M5 hb6
      have HP6 := Lib.hid hp6
      have HI6 := Lib.hid hin6
      clear hp6 hin6
      go_wp2_with fail
      refine (find_p ep A n cap ms x.id _ M6.out HR.out hx.id).mono ?_
      rintro e w7 ⟨i', rfl, hi7, hin7, hp7, hb7⟩
      have S7 := S6.later hb7
      clear c0 c1 x0 x1 r0 r1 f0 f1 o0 o1 g0 g1 m0 mr
      obtain ⟨⟨c0, c1, x0, x1⟩, ⟨r0, r1, f0, f1⟩, ⟨o0, o1, g0, g1⟩, m0, mr⟩ := S7.facts hmo
      rw [hk] at x0
      clear S6 M6 hb7 hp7 hin7
      cases hh : hasB ms x.id with
      | true =>
        have hE : appE ep ms x = 9 := by unfold appE memOf; rw [hk]; simp [hg, hne'.out, hr, hh]
        have HE := Lib.hid hE
        clear hE
        go_wp2_with fail
        refine bodyPost_ret (v := .tuple #[.agg #[.int .i64 0, .slice none 0 0], .int .i64 9]) (by rw [results_cell2 Tryd.results50]; simp [go_sem, *]) rfl ?_
        unfold appR; rw [HE.out]
        exact applied_not S7.U.bel (by decide)
      | false =>
        by_cases hn1' : n = 10
        · have hn1b : ((n : Int) == 10) = true := by rw [hn1']; rfl
          have hE : appE ep ms x = 11 := by unfold appE memOf; rw [hk]; simp [hg, hne'.out, hr, hh, hlen.out, hn1']
          have HE := Lib.hid hE
          clear hE hn1'
          go_wp2_with fail
          refine bodyPost_ret (v := .tuple #[.agg #[.int .i64 0, .slice none 0 0], .int .i64 11]) (by rw [results_cell2 Tryd.results50]; simp [go_sem, *]) rfl ?_
          unfold appR; rw [HE.out]
          exact applied_not S7.U.bel (by decide)
        have hn1b : ((n : Int) == 10) = false := by rw [beq_eq_false_iff_ne]; omega
        have hn1 := Lib.hid hn1'
        clear hn1'
        obtain ⟨gv, cv, hv⟩ := own_some S7.U.own (.inl (n_pos hlen.out hg))
        cases hv
        obtain ⟨_, _, hcv, M8⟩ := MS_of_own S7.U.own hok.out hsm.out
        cases hcv
        have M8 := Lib.hid M8
        go_wp2_with fail
        refine (find_p (ep + 1) _ n _ ms x.id _ M8.out HR.out hx.id).mono ?_
        rintro e w9 ⟨j, rfl, hj9, hin9, hp9, hb9⟩
        have hj := Lib.hid (hp9 (.inr (by omega)))
        have S9 := S7.later hb9
        clear c0 c1 x0 x1 r0 r1 f0 f1 o0 o1 g0 g1 m0 mr
        obtain ⟨⟨c0, c1, x0, x1⟩, ⟨r0, r1, f0, f1⟩, ⟨o0, o1, g0, g1⟩, m0, mr⟩ := S9.facts hmo
        rw [hk] at x0
        clear S7 M8 hb9 hp9 hin9
        have hbs := bs_M1 hmo w9
        have hB9 := (Below.refl w9.heap.size w9).alloc (Nat.le_refl _) (.cells (Mb.mk x.id x.key).arr 60)
        have S10 := S9.later hB9
        go_wp2_with fail
        refine (insert_any S10.U.own hok.out hmo hj9 (small_one (n_ten hlen.out hg)) (S10.I.sz) (heap_alloc_new _ _) ?_ ⟨_, _, rfl⟩).mono ?_
        · simp only [Value.ownBlock, ne_eq, Option.some.injEq]
          intro e
          have := own_hi S9.U.own gv rfl
          omega
        rintro e w11 ⟨v11, rfl, hown11, hg11⟩
        obtain ⟨A11, cap11, rfl, -⟩ := MS_of_own hown11 (ok_ins hok.out hmo j) (small_two (n_ten hlen.out hg))
        obtain ⟨⟨p1, q1, y0⟩, I11, U11, row11⟩ := S10.turn hg11 hown11
        have z0 := I11.r0
        have z1 := I11.r1
        have z2 := I11.f0
        have z3 := I11.f1
        have z4 := U11.o0
        have z5 := U11.o1
        have hE : appE ep ms x = 0 := by unfold appE memOf; rw [hk]; simp [hg, hne'.out, hr, hh, hlen.out, hn1.out]
        have hL : appR ep ms x = ms.take j ++ Mb.mk x.id x.key :: ms.drop j := by
          unfold appR; rw [hE, if_pos rfl]; unfold appL memOf; rw [hk]; simp [← hj.out]
        have HL := Lib.hid hL
        have HE := Lib.hid hE
        clear hL hE S10 hbs hown11 hg11 S9
        go_wp2_with fail
        refine bodyPost_ret (v := .tuple #[.agg #[.int .i64 (ep + 1), .slice A11 (n + 1) cap11], .int .i64 0]) (by rw [results_cell2 Tryd.results50]; simp [go_sem, *]) rfl ?_
        rw [HE.out, HL.out]
        exact applied_ok I11 U11 (ok_ins hok.out hmo j) (len_ins hlen.out hj9)


end Go.Proofs.YtfnfgnhbnffagaaDoor

/-
Apply at the other kinds.
-/
namespace Go.Proofs.YtfnfgnhbnffagaaDoor
open Go.RowKit
set_option linter.unusedVariables false
set_option maxRecDepth 100000

set_option maxHeartbeats 2000000 in
theorem apply_3 (ep : Int) (A : Option Addr) (n cap : Nat) (ms : List Mb) (id nw : Int) (key : Kb) (w : World) (h : MS w A n ms) (hx : (Chg.mk 3 id nw key).ok) (hg : goodB ep ms = true) (he : ep ≠ 1073741824)
    (hA : A = none → n = 0) (hs : ∀ a, A = some a → a.spot = none) (hb : n * 48 ≤ 140737488355328) (e0 : 0 ≤ ep) (e1 : ep ≤ 1073741824) :
    Calls Tryd.prog 50 #[.agg #[.int .i64 ep, .slice A n cap], .agg (Chg.mk 3 id nw key).arr] w (Applied ep (appE ep ms ⟨3, id, nw, key⟩) (appR ep ms ⟨3, id, nw, key⟩) w) := by
  generalize hX : Chg.mk 3 id nw key = x at *
  have hk : x.kind = 3 := by rw [← hX]
  have hB := ((((Below.refl w.heap.size w).alloc (Nat.le_refl _) (.cells #[.int .i64 ep, .slice A n cap] 26)).alloc (by simp) (.cells x.arr 42)).alloc (by simp; omega) (.cells #[.int .i64 0, .slice none 0 0] 26))
  have H := Lib.hid (h.below hB)
  have I0 := Ap.start w ep A n cap hx
  have hne : (ep == 1073741824) = false := by rw [beq_eq_false_iff_ne]; exact he
  have hne' := Lib.hid he
  have hw : wrap64 (ep + 1) = ep + 1 := by unfold wrap64; omega
  have hok := Lib.hid (show OkAll ms from h.ok)
  have hlen := Lib.hid h.len
  have hb48 := Lib.hid hb
  have HR := Lib.hid (rising_of_good h.len hg)
  have hsm := Lib.hid h.small
  have hwi : IntKind.i64.wrap (ep + 1) = ep + 1 := by rw [IntKind.wrap_i64]; omega
  clear h he
  go_enter Tryd.func50, Tryd.ntmps50
  go_wp2_with fail
  refine (good_any ep A n cap ms _ H.out).mono ?_
  rw [hg]
  rintro e w1 ⟨rfl, hb1⟩
  have H1 := Lib.hid (H.out.below hb1)
  have I1 := Lib.hid (I0.later hb1)
  obtain ⟨c0, c1, x0, x1, x2, xk, r0, r1, f0, f1, sz⟩ := I0.later hb1
  rw [hk] at x0
  have hB1 := hB.trans (hb1.mono (by simp; omega))
  have ne1 : ¬ w1.heap.size = w.heap.size := by omega
  have ne2 : ¬ w.heap.size = w1.heap.size := by omega
  clear I0 hB
  go_upto_region 3 with fail
  go_cut [6] (fun s6 wx => Begun ep A n cap x ms w s6 wx)
  case first =>
    go_region_held3 (fun w' => w'.cell? ⟨w.heap.size, 0, none⟩ = some (.int .i64 ep) ∧ w'.cell? ⟨w.heap.size, 1, none⟩ = some (.slice A n cap)) (first | exact ⟨c0, c1⟩ | exact ⟨c0', c1'⟩ | go_keep)
      (first
        | (go_at_call 62; refine (clone_any A n cap ms _ (H1.out.below (Below.refl _ _).drew) hb hA hs).mono ?_; rintro e w2 ⟨v, rfl, hown, hb2⟩; obtain ⟨A2, cap2, rfl, -⟩ := MS_of_own hown hok.out hsm.out; have HO := Lib.hid hown; clear hown
           have c0' := (hb2.cell (p := ⟨w.heap.size, 0, none⟩) (by simp; omega)).trans c0; have c1' := (hb2.cell (p := ⟨w.heap.size, 1, none⟩) (by simp; omega)).trans c1)
        | (go_at_call 62; refine (clone_any A n cap ms _ (H1.out.below ((Below.refl _ _).drew.alloc (by simp) _)) hb hA hs).mono ?_; rintro e w2 ⟨v, rfl, hown, hb2⟩; obtain ⟨A2, cap2, rfl, -⟩ := MS_of_own hown hok.out hsm.out; have HO := Lib.hid hown; clear hown
           have c0' := (hb2.cell (p := ⟨w.heap.size, 0, none⟩) (by simp; omega)).trans (show _ = some (Value.int .i64 ep) by rw [World.cell?_alloc_past _ _ _ (by simp; omega)]; exact c0); have c1' := (hb2.cell (p := ⟨w.heap.size, 1, none⟩) (by simp; omega)).trans (show _ = some (Value.slice A n cap) by rw [World.cell?_alloc_past _ _ _ (by simp; omega)]; exact c1)
           have o0 := (hb2.cell (p := ⟨w1.heap.size, 0, none⟩) (by simp)).trans (World.cell?_alloc_at _ _ _ _ rfl)
           have o1 := (hb2.cell (p := ⟨w1.heap.size, 1, none⟩) (by simp)).trans (World.cell?_alloc_at _ _ _ _ rfl)
           have p0 := (hb2.frozen (p := ⟨w1.heap.size, 0, none⟩) (by simp)).trans (World.frozen?_alloc_at _ _ _ _ rfl)
           have p1 := (hb2.frozen (p := ⟨w1.heap.size, 1, none⟩) (by simp)).trans (World.frozen?_alloc_at _ _ _ _ rfl)
           simp at o0 o1 p0 p1))
    all_goals (go_wp2_with fail; go_meet; case rel => first | exact begun_1 I1.out H1.out hB1 HO.out hb2 | exact begun_2 I1.out H1.out hB1 HO.out hb2 o0 o1 p0 p1 ⟨_, rfl⟩)

  case rest =>
    clear c0 c1 x0 x1 x2 xk r0 r1 f0 f1 sz I1 H1 hB1 ne1 ne2 hb1 H hb e0 e1 hw hwi hne
    obtain ⟨O, v, rfl, I, M, U⟩ := hcut
    obtain ⟨A2, cap2, rfl, M2⟩ := MS_of_own U.own hok.out hsm.out
    have S4 := St.start I U (Mb.mk x.nw x.key)
    have S3 := St.start I U (Mb.mk x.id x.key)
    have M4 := M.below ((Below.refl wc.heap.size wc).alloc (Nat.le_refl _) (.cells (Mb.mk x.nw x.key).arr 60))
    obtain ⟨c0, c1, x0, x1, x2, xk, r0, r1, f0, f1, sz⟩ := I
    rw [hk] at x0
    have hmo : (Mb.mk x.nw x.key).ok := ⟨hx.key, hx.nw⟩
    have hset := set_id x.id x.nw x.key
    have hms := Mb.sz (m := Mb.mk x.id x.key) ⟨hx.key, hx.id⟩
    have hmi := Mb.ones (Mb.mk x.id x.key)
    have hkk := hx.key
    clear M U M2
    obtain ⟨⟨c0, c1, x0, x1⟩, ⟨r0, r1, f0, f1⟩, ⟨o0, o1, g0, g1⟩, m0, mr⟩ := S4.facts hmo
    rw [hk] at x0
    obtain ⟨⟨d0, d1, d2, d3⟩, -, -, d4, d5⟩ := S3.facts ⟨hx.key, hx.id⟩
    have d6 := S3.I.k2
    rw [hk] at d2
    clear S3
    go_wp2_with fail
    refine (right_any hmo _).mono ?_
    rintro e w5 ⟨rfl, hb5⟩
    have S5 := S4.later hb5
    have M5 := Lib.hid (M4.below hb5)
    clear c0 c1 x0 x1 r0 r1 f0 f1 o0 o1 g0 g1 m0 mr
    obtain ⟨⟨c0, c1, x0, x1⟩, ⟨r0, r1, f0, f1⟩, ⟨o0, o1, g0, g1⟩, m0, mr⟩ := S5.facts hmo
    rw [hk] at x0
    clear S4 M4 hb5
    cases hr : rightB (Mb.mk x.nw x.key) with
    | false =>
      go_wp2_with fail
      refine bodyPost_ret (v := .tuple #[.agg #[.int .i64 0, .slice none 0 0], .int .i64 1]) (by rw [results_cell2 Tryd.results50]; simp [go_sem, *]) rfl ?_
      have hE : appE ep ms x = 1 := by unfold appE memOf; rw [hk]; simp [hr]
      unfold appR; rw [hE]
      exact applied_not S5.U.bel (by decide)
    | true =>
      have hr2 := hr
      unfold rightB at hr2
      simp only [decide_eq_true_eq] at hr2
      go_wp2_with fail
      refine (find_p ep A n cap ms x.id _ M5.out HR.out hx.id).mono ?_
      rintro e w6 ⟨i, rfl, hi6, hin6, hp6, hb6⟩
      have S6 := S5.later hb6
      have M6 := Lib.hid (M5.out.below hb6)
      clear c0 c1 x0 x1 r0 r1 f0 f1 o0 o1 g0 g1 m0 mr
      obtain ⟨⟨c0, c1, x0, x1⟩, ⟨r0, r1, f0, f1⟩, ⟨o0, o1, g0, g1⟩, m0, mr⟩ := S6.facts hmo
      rw [hk] at x0
      clear S5 M5 hb6
      have HP6 := Lib.hid hp6
      have HI6 := Lib.hid hin6
      clear hp6 hin6
      go_wp2_with fail
      refine (find_p ep A n cap ms x.nw _ M6.out HR.out hx.nw).mono ?_
      rintro e w7 ⟨i', rfl, hi7, hin7, hp7, hb7⟩
      have S7 := S6.later hb7
      clear c0 c1 x0 x1 r0 r1 f0 f1 o0 o1 g0 g1 m0 mr
      obtain ⟨⟨c0, c1, x0, x1⟩, ⟨r0, r1, f0, f1⟩, ⟨o0, o1, g0, g1⟩, m0, mr⟩ := S7.facts hmo
      rw [hk] at x0
      clear S6 M6 hb7 hp7 hin7
      cases hh : hasB ms x.id with
      | false =>
        go_wp2_with fail
        refine bodyPost_ret (v := .tuple #[.agg #[.int .i64 0, .slice none 0 0], .int .i64 7]) (by rw [results_cell2 Tryd.results50]; simp [go_sem, *]) rfl ?_
        have hE : appE ep ms x = 7 := by unfold appE memOf; rw [hk]; simp [hg, hne'.out, hr, hh]
        unfold appR; rw [hE]
        exact applied_not S7.U.bel (by decide)
      | true =>
        cases hq : hasB ms x.nw with
        | true =>
          have hE : appE ep ms x = 9 := by unfold appE memOf; rw [hk]; simp [hg, hne'.out, hr, hh, hq]
          have HE := Lib.hid hE
          clear hE
          go_wp2_with fail
          refine bodyPost_ret (v := .tuple #[.agg #[.int .i64 0, .slice none 0 0], .int .i64 9]) (by rw [results_cell2 Tryd.results50]; simp [go_sem, *]) rfl ?_
          unfold appR; rw [HE.out]
          exact applied_not S7.U.bel (by decide)
        | false =>
          have hlt := HI6.out hh
          have hpi := Lib.hid (HP6.out (.inl hh))
          obtain ⟨gv, cv, hv⟩ := own_some S7.U.own (.inl (by omega))
          cases hv
          have hwr := wrap_succ hlt hsm.out
          go_wp2_with fail
          refine (delete_any S7.U.own hok.out (small_62 hsm.out) hlt).mono ?_
          rintro e w8 ⟨v8, rfl, hown8, hbk8, hg8⟩
          obtain ⟨A8, cap8, rfl, -⟩ := MS_of_own hown8 (fun m hm => hok.out m (List.mem_of_mem_eraseIdx hm)) (small_pred hsm.out)
          obtain ⟨⟨p1, q1, y0⟩, I8, U8, row8⟩ := S7.turn hg8 hown8
          rw [hk] at y0
          have S8 : St ep A n cap x O wc.heap.size (Mb.mk x.nw x.key) _ (n - 1) (ms.eraseIdx i) w _ := ⟨I8, U8, row8, S7.lo, S7.hO, by rw [hbk8]; exact S7.neM⟩
          clear c0 c1 x0 x1 r0 r1 f0 f1 o0 o1 g0 g1 m0 mr
          obtain ⟨⟨c0, c1, x0, x1⟩, ⟨r0, r1, f0, f1⟩, ⟨o0, o1, g0, g1⟩, m0, mr⟩ := S8.facts hmo
          rw [hk] at x0
          clear I8 U8 row8 S7 hg8 hown8
          have hl := S8.U.own
          have hok8 : OkAll (ms.eraseIdx i) := fun m hm => hok.out m (List.mem_of_mem_eraseIdx hm)
          obtain ⟨_, _, hcv, M8⟩ := MS_of_own S8.U.own hok8 (small_pred hsm.out)
          cases hcv
          have M8 := Lib.hid M8
          go_wp2_with fail
          refine (find_p (ep + 1) _ (n - 1) _ (ms.eraseIdx i) x.nw _ M8.out (HR.out.erase hlen.out i hlt) hx.nw).mono ?_
          rintro e w9 ⟨j, rfl, hj9, hin9, hp9, hb9⟩
          have hj := Lib.hid (hp9 (.inr (by omega)))
          have S9 := S8.later hb9
          have M9 := Lib.hid (M8.out.below hb9)
          clear c0 c1 x0 x1 r0 r1 f0 f1 o0 o1 g0 g1 m0 mr
          obtain ⟨⟨c0, c1, x0, x1⟩, ⟨r0, r1, f0, f1⟩, ⟨o0, o1, g0, g1⟩, m0, mr⟩ := S9.facts hmo
          rw [hk] at x0
          clear S8 M8 hb9 hp9 hin9 p1 q1 y0 hwr
          have hbs := bs_M1 hmo w9
          have hB9 := (Below.refl w9.heap.size w9).alloc (Nat.le_refl _) (.cells (Mb.mk x.nw x.key).arr 60)
          have S10 := S9.later hB9
          obtain ⟨g9, c9, hcv⟩ := own_some S9.U.own (.inr (by rw [hbk8]; simp [Value.ownBlock]))
          cases hcv
          go_wp2_with fail
          refine (insert_any S10.U.own hok8 hmo hj9 (small_ins hb48.out hlt) (S10.I.sz) (heap_alloc_new _ _) ?_ ⟨_, _, rfl⟩).mono ?_
          · simp only [Value.ownBlock, ne_eq, Option.some.injEq]
            intro e
            have := own_hi S9.U.own g9 rfl
            omega
          rintro e w11 ⟨v11, rfl, hown11, hg11⟩
          obtain ⟨A11, cap11, rfl, -⟩ := MS_of_own hown11 (ok_ins hok8 hmo j) (small_back hsm.out hlt)
          obtain ⟨⟨p1, q1, y0⟩, I11, U11, row11⟩ := S10.turn hg11 hown11
          have z0 := I11.r0
          have z1 := I11.r1
          have z2 := I11.f0
          have z3 := I11.f1
          have z4 := U11.o0
          have z5 := U11.o1
          have hE : appE ep ms x = 0 := by unfold appE memOf; rw [hk]; simp [hg, hne'.out, hr, hh, hq]
          have hL : appR ep ms x = (ms.eraseIdx i).take j ++ Mb.mk x.nw x.key :: (ms.eraseIdx i).drop j := by
            unfold appR; rw [hE, if_pos rfl]; unfold appL memOf; rw [hk, ← hpi.out]; simp [← hj.out]
          have HL := Lib.hid hL
          have HE := Lib.hid hE
          clear hL hE S10 hbs hown11 hg11 S9 hl
          go_wp2_with fail
          refine bodyPost_ret (v := .tuple #[.agg #[.int .i64 (ep + 1), .slice A11 (n - 1 + 1) cap11], .int .i64 0]) (by rw [results_cell2 Tryd.results50]; simp [go_sem, *]) rfl ?_
          rw [HE.out, HL.out]
          exact applied_ok I11 U11 (ok_ins hok8 hmo j) (len_ins (by rw [List.length_eraseIdx, hlen.out, if_pos hlt]) hj9)


end Go.Proofs.YtfnfgnhbnffagaaDoor
