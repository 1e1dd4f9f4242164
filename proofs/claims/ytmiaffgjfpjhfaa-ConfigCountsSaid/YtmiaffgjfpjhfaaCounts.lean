/-
ConfigCounts: Good, Faults, Quorum, Weak and Find answer what the document says.
-/
import Derived.Test.YtmiaffgjfpjhfaaFour
import Derived.Test.YtmiaffgjfpjhfaaRows
namespace Go.Proofs.Ytmiaffgjfpjhfaa
open Go.ChangeShapes Go.WideShapes Go.ChangeAt Go.RowKit
set_option linter.unusedVariables false
set_option linter.unusedSimpArgs false

theorem wrap_faults {n : Nat} (hn : n ≤ 140737488355328) : wrap64 ((faultsN n : Int) + 1) = faultsN n + 1 := by
  have hf : faultsN n ≤ n := by unfold faultsN; omega
  unfold wrap64; omega
set_option maxHeartbeats 2000000 in
theorem counts_long (ep : Int) (A : Option Addr) (n cap : Nat) (id : Int) (w : World) (hn : n ≤ maxLen) (hl : ¬ n ≤ 1024) :
    Calls Try.prog 6 #[.agg #[.int .i64 ep, .slice A n cap], .int .i64 id] w fun e w' => e = .returned (.bool true) ∧ Below w.heap.size w w' := by
  have hB := alloc_below w (.cells #[.int .i64 ep, .slice A n cap] 24)
  have B0 := Lib.hid (Box.start w ep A n cap)
  have h1 : (1024 : Int) < n := by omega
  clear hn hl
  go_enter Try.func6, Try.ntmps6
  go_wp2_with fail
  refine (alive_any _).mono ?_
  rintro e w1 ⟨rfl, hb1⟩
  obtain ⟨c0, c1, -⟩ := B0.out.later hb1
  go_wp2_with fail
  go_ret
  exact ⟨rfl, hB.trans (hb1.mono (by simp))⟩

set_option maxHeartbeats 2000000 in
theorem counts_short (ep : Int) (A : Option Addr) (n cap : Nat) (id : Int) (ms : List Mb) (w : World) (h : MS w A n ms) (hl : n ≤ 1024) :
    Calls Try.prog 6 #[.agg #[.int .i64 ep, .slice A n cap], .int .i64 id] w fun e w' => e = .returned (.bool true) ∧ Below w.heap.size w w' := by
  have hB := alloc_below w (.cells #[.int .i64 ep, .slice A n cap] 24)
  have B0 := Lib.hid (Box.start w ep A n cap)
  have H := Lib.hid (h.below hB)
  have h1 : ¬ (1024 : Int) < n := by omega
  have hsm := Lib.hid h.small
  have hwf := wrap_faults h.small
  rcases placeI_cases ms id with ⟨hp, -⟩ | ⟨k, hk, hp, hid, -⟩
  · have HP := Lib.hid hp
    clear h hp
    go_enter Try.func6, Try.ntmps6
    go_wp2_with fail
    refine (alive_any _).mono ?_
    rintro e w1 ⟨rfl, hb1⟩
    have H1 := Lib.hid (H.out.below hb1)
    have B1 := Lib.hid (B0.out.later hb1)
    obtain ⟨c0, c1, -⟩ := B1.out
    go_wp2_with fail
    refine (Find_none ep A n cap ms id _ H1.out HP.out).mono ?_
    rintro e w2 ⟨rfl, hb2⟩
    have hb3 := hb2.alloc hb2.size (.cells Mb.zero.arr 37)
    have H3 := Lib.hid (H1.out.below hb3)
    have B3 := Lib.hid (B1.out.later hb3)
    obtain ⟨d0, d1, -⟩ := B3.out
    clear c0 c1
    obtain ⟨d0, d1, -⟩ := B1.out.later hb2
    go_wp2_with fail
    refine (place_any ep A n cap ms id _ H3.out).mono ?_
    rw [HP.out]
    rintro e w4 ⟨rfl, hb4⟩
    have H4 := Lib.hid (H3.out.below hb4)
    have B4 := Lib.hid (B3.out.later hb4)
    obtain ⟨f0, f1, fh⟩ := B4.out
    have r4 := (rowAt_below hb4 (b := w2.heap.size) (by simp) 0 34).trans (row_alloc w2 Mb.zero.arr 37 Mb.zero_sz)
    go_wp2_with fail
    have hne := fun w => run_neRow Mb.zero_ok Mb.zero_ok w
    simp at hne
    go_quiet (fail)
    go_wp2_with fail
    obtain ⟨g0, g1, gh⟩ := B4.out.later (below_drewN (Below.refl _ _) nq)
    have H5 := Lib.hid (H4.out.below (below_drewN (Below.refl w4.heap.size w4) nq))
    have hb5 := below_drewN (Below.refl w4.heap.size w4) nq
    generalize w4.drewN nq = w5 at *
    refine wp_region_later_lit (by kernel_rfl) (by kernel_rfl) ?_
    repeat (go_big_quiet_step (first
      | (go_at_call 17; rename_i x; exact Later.call (good_any ep A n cap ms _ (H5.out.below x.below)))
      | (go_at_call 18; rename_i x; exact Later.call (refGood_any ep A n cap ms _ (H5.out.below x.below)))
      | (go_at_call 12; exact Later.call (faults_any ep A n cap hsm.out _))
      | (go_at_call 19; exact Later.same (refFaults_any n hsm.out _))
      | (go_at_call 10; exact Later.call (quorum_any ep A n cap hsm.out _))
      | (go_at_call 20; exact Later.same (refQuorum_any n hsm.out _))
      | (go_at_call 11; exact Later.call (weak_any ep A n cap hsm.out _))))
    refine wpQuiet_nil ?_
    intro _ hx
    obtain ⟨⟨w6, hb6⟩, rfl⟩ := hx
    go_wp2_with fail
    go_ret
    obtain ⟨i1, j1⟩ := since hB (by simp) hb1
    obtain ⟨i3, j3⟩ := since i1 j1 hb3
    obtain ⟨i4, j4⟩ := since i3 j3 hb4
    obtain ⟨i5, j5⟩ := since i4 j4 hb5
    exact ⟨rfl, (since i5 j5 hb6).1⟩
  · have HP := Lib.hid hp
    rw [h.len] at hk
    have hmo := h.okAt hk
    obtain ⟨b, off, rfl, hbA, hrow⟩ := h.mem (by omega)
    have hrow := hrow k hk
    obtain ⟨m, hmd⟩ : ∃ m, ms.getD k default = m := ⟨_, rfl⟩
    rw [hmd] at hmo hrow
    have HM := Lib.hid hmd
    have HROW := Lib.hid hrow
    have hms := Mb.sz hmo
    have hmi := m.ones
    have k0 : (0 : Int) ≤ k := by omega
    have k1 : (k : Int) < n := by omega
    clear h hp hid hmd hrow
    go_enter Try.func6, Try.ntmps6
    go_wp2_with fail
    refine (alive_any _).mono ?_
    rintro e w1 ⟨rfl, hb1⟩
    have H1 := Lib.hid (H.out.below hb1)
    have B1 := Lib.hid (B0.out.later hb1)
    obtain ⟨c0, c1, -⟩ := B1.out
    go_wp2_with fail
    refine (Find_some ep _ n cap ms id k _ H1.out hk HP.out).mono ?_
    rw [HM.out]
    rintro e w2 ⟨rfl, hb2⟩
    have hb3 := hb2.alloc hb2.size (.cells m.arr 37)
    have H3 := Lib.hid (H1.out.below hb3)
    have B3 := Lib.hid (B1.out.later hb3)
    obtain ⟨d0, d1, -⟩ := B3.out
    clear c0 c1
    obtain ⟨d0, d1, -⟩ := B1.out.later hb2
    go_wp2_with fail
    refine (place_any ep _ n cap ms id _ H3.out).mono ?_
    rw [HP.out]
    rintro e w4 ⟨rfl, hb4⟩
    have H4 := Lib.hid (H3.out.below hb4)
    have B4 := Lib.hid (B3.out.later hb4)
    obtain ⟨f0, f1, fh⟩ := B4.out
    have r4 := (rowAt_below hb4 (b := w2.heap.size) (by simp) 0 34).trans (row_alloc w2 m.arr 37 hms)
    have rA := (rowAt_below (since (since (since hB (by simp) hb1).1 (since hB (by simp) hb1).2 hb3).1 (since (since hB (by simp) hb1).1 (since hB (by simp) hb1).2 hb3).2 hb4).1 hbA _ 34).trans HROW.out
    go_wp2_with fail
    have hne := fun w => run_neRow hmo hmo w
    simp at hne
    go_quiet (fail)
    go_wp2_with fail
    obtain ⟨g0, g1, gh⟩ := B4.out.later (below_drewN (Below.refl _ _) nq)
    have H5 := Lib.hid (H4.out.below (below_drewN (Below.refl w4.heap.size w4) nq))
    have hb5 := below_drewN (Below.refl w4.heap.size w4) nq
    generalize w4.drewN nq = w5 at *
    refine wp_region_later_lit (by kernel_rfl) (by kernel_rfl) ?_
    repeat (go_big_quiet_step (first
      | (go_at_call 17; rename_i x; exact Later.call (good_any ep _ n cap ms _ (H5.out.below x.below)))
      | (go_at_call 18; rename_i x; exact Later.call (refGood_any ep _ n cap ms _ (H5.out.below x.below)))
      | (go_at_call 12; exact Later.call (faults_any ep _ n cap hsm.out _))
      | (go_at_call 19; exact Later.same (refFaults_any n hsm.out _))
      | (go_at_call 10; exact Later.call (quorum_any ep _ n cap hsm.out _))
      | (go_at_call 20; exact Later.same (refQuorum_any n hsm.out _))
      | (go_at_call 11; exact Later.call (weak_any ep _ n cap hsm.out _))))
    refine wpQuiet_nil ?_
    intro _ hx
    obtain ⟨⟨w6, hb6⟩, rfl⟩ := hx
    go_wp2_with fail
    go_ret
    obtain ⟨i1, j1⟩ := since hB (by simp) hb1
    obtain ⟨i3, j3⟩ := since i1 j1 hb3
    obtain ⟨i4, j4⟩ := since i3 j3 hb4
    obtain ⟨i5, j5⟩ := since i4 j4 hb5
    exact ⟨rfl, (since i5 j5 hb6).1⟩

theorem counts_walk (ep : Int) (A : Option Addr) (n cap : Nat) (id : Int) (w : World) (we : (Lit.int .i64 ep).wf = true) (hn : n ≤ maxLen) (hm : n ≤ 140737488355328 → ∃ ms, MS w A n ms) (wi : (Lit.int .i64 id).wf = true) :
    Calls Try.prog 6 #[.agg #[.int .i64 ep, .slice A n cap], .int .i64 id] w fun e w' => e = .returned (.bool true) ∧ Below w.heap.size w w' := by
  by_cases hl : n ≤ 1024
  · obtain ⟨ms, h⟩ := hm (by omega)
    exact counts_short ep A n cap id ms w h hl
  · exact counts_long ep A n cap id w hn hl



set_option maxRecDepth 100000 in
theorem configCounts_lifted (os : Os) (started : os.Started) (H : Type) (enc : TypeId × Value → H) :
    ReturnsInHanded {} Try.checked os 6 .any (Rows.configCountsSpec.pre6 enc Try.prog Try.f6 Rows.configCountsRow.domain false) (Rows.configCountsSpec.post enc Try.prog Try.f6 false true false false) := by
  refine returnsInHanded_of_change (C := Try.checked) own started (by kernel_rfl) Try.func6
    (ChangeSpec.witness6 (enc := enc) (C := Try.checked) false ⟨#[], #[.agg #[.int .i64 0, .slice none 0 0], .int .i64 0], []⟩ 8 (by kernel_rfl) (by kernel_rfl) (by kernel_rfl) (by kernel_rfl)) ?_
  intro W base args ds gs before hval0 hW hcnd _
  have hval : ∀ (j : Nat) t v, Try.f6.params[j]? = some t → args[j]? = some v → Value.okWide Try.prog W .any base t v := hval0
  have hW' := hW
  obtain ⟨p, q, hA0, hV, rfl, hfz, hnd⟩ := hW
  have hA : DataW.TrodAll enc Try.prog W 0 (fun _ => true) true Try.f6.params.toList args.toList ds p := hA0
  rw [Try.params6] at hA hval
  obtain ⟨v0, vs0, d0, ds0, p0, q0, hargs, rfl, rfl, h0, r0⟩ := trodAll_cons hA
  obtain ⟨v1, vs1, d1, ds1, p1, q1, rfl, rfl, rfl, h1, r1⟩ := trodAll_cons r0
  obtain ⟨rfl, rfl, rfl⟩ := trodAll_nil r1
  obtain rfl : args = #[v0, v1] := by cases args; simp_all
  obtain ⟨rfl, rfl⟩ := trodVars_none hV
  have k0 := h0
  have lt0 : ∀ x ∈ p0, x.block < W.heap.size := by obtain ⟨m, hm⟩ := k0; exact DataW.trod_lt m _ _ _ hm
  obtain ⟨e0, A0, n0, c0, rfl, we0, wn0, wm0⟩ := open_config (hval 0 24 v0 rfl rfl) h0
  obtain ⟨a1, rfl, rfl, rfl, w1⟩ := open_int Try.underlying3 (hval 1 3 v1 rfl rfl) h1
  clear hA0 hval0
  refine (counts_walk e0 A0 n0 c0 a1 W we0 wn0 wm0 w1).mono fun e W' ⟨he, bel⟩ => ?_
  subst he
  exact ⟨_, rfl, _, _, _, [], _, [], hW', trodAll_mk1 (shut_bool Try.underlying4 _), (trodAll_cons_mk (Below.trod laidOut (by kernel_rfl) (of_decide_eq_true (by kernel_rfl)) k0 bel lt0) (trodAll_cons_mk (shut_int Try.underlying3 w1) trodAll_mk0)), rfl, bel.frame _, fun h => by cases h⟩

theorem configCounts_holds : Rows.ConfigCountsSaid :=
  OpenClaim.holds_of_wide 6 Try.f6 rfl rfl rfl rfl rfl rfl rfl ⟨rfl, rfl, rfl, rfl, rfl⟩ rfl rfl rfl rfl rfl (by kernel_rfl) Try.func6 (by kernel_rfl)
    (of_decide_eq_true (by kernel_rfl)) (by unfold Func.isWrapper; first | (rw [if_pos (by decide +kernel)]; kernel_rfl) | (rw [if_neg (by decide +kernel)]; exact ⟨rfl, rfl⟩))
    (fun os started H enc _ => configCounts_lifted os started H enc)


end Go.Proofs.Ytmiaffgjfpjhfaa
