/-
ConfigMeets: of any two sets of members that are quorums a weak quorum is in both; all members but as many as may be wrong are a quorum.
-/
import Derived.Test.YtmiaffgjfpjhfaaKey
import Derived.Test.YtmiaffgjfpjhfaaRows
import Derived.Deep.DeepCutAuto
namespace Go.Proofs.Ytmiaffgjfpjhfaa
open Go.ChangeShapes Go.WideShapes Go.ChangeAt Go.RowKit
set_option linter.unusedVariables false
set_option linter.unusedSimpArgs false

set_option maxHeartbeats 2000000 in
theorem meets_far (ep : Int) (A : Option Addr) (n cap : Nat) (a b : Int) (w : World) (hl : ¬ (1 ≤ n ∧ n ≤ 60)) :
    Calls Try.prog 3 #[.agg #[.int .i64 ep, .slice A n cap], .int .u64 a, .int .u64 b] w fun e w' => e = .returned (.bool true) ∧ Below w.heap.size w w' := by
  have hB := alloc_below w (.cells #[.int .i64 ep, .slice A n cap] 24)
  have B0 := Lib.hid (Box.start w ep A n cap)
  have h1 : (n : Int) < 1 ∨ (¬ (n : Int) < 1 ∧ (60 : Int) < n) := by omega
  clear hl
  rcases h1 with h1 | ⟨h1, h2⟩
  all_goals
    go_enter Try.func3, Try.ntmps3
    go_wp2_with fail
    refine (alive_any _).mono ?_
    rintro e w1 ⟨rfl, hb1⟩
    obtain ⟨c0, c1, -⟩ := B0.out.later hb1
    go_wp2_with fail
    go_ret
    exact ⟨rfl, hB.trans (hb1.mono (by simp))⟩

set_option maxRecDepth 4000 in
set_option maxHeartbeats 4000000 in
theorem meets_near (ep : Int) (A : Option Addr) (n cap : Nat) (a b : Int) (w : World) (h1 : ¬ (n : Int) < 1) (h2 : ¬ (60 : Int) < n) :
    Calls Try.prog 3 #[.agg #[.int .i64 ep, .slice A n cap], .int .u64 a, .int .u64 b] w fun e w' => e = .returned (.bool true) ∧ Below w.heap.size w w' := by
  have hB := alloc_below w (.cells #[.int .i64 ep, .slice A n cap] 24)
  have B0 := Lib.hid (Box.start w ep A n cap)
  go_enter Try.func3, Try.ntmps3
  go_wp2_with fail
  refine (alive_any _).mono ?_
  rintro e w1 ⟨rfl, hb1⟩
  obtain ⟨c0, c1, -⟩ := B0.out.later hb1
  go_wp2_with fail
  go_loop [8, 9, 10, 11] (fun sx sy sz si => ∃ k x y z : Nat, k ≤ n ∧ sx = .int .i64 x ∧ sy = .int .i64 y ∧ sz = .int .i64 z ∧ si = .int .i64 k ∧ z ≤ x ∧ z ≤ y ∧ x ≤ k ∧ y ≤ k ∧ x + y ≤ z + k) (fun _ _ _ si => n - (intOf si).toNat)
  case atStart => exact ⟨0, 0, 0, 0, by omega, rfl, rfl, rfl, rfl, by omega, by omega, by omega, by omega, by omega⟩
  case round =>
    obtain ⟨k, x, y, z, hk, rfl, rfl, rfl, rfl, r1, r2, r3, r4, r5⟩ := hrel
    have hk0 : (0 : Int) ≤ k := by omega
    have hnn : (n : Int) ≤ 60 := by omega
    by_cases hlt : k < n
    · go_upto_if 43 with fail
      generalize (bits BinOp.and IntKind.u64 (a / 2 ^ k) 1 == 1) = p
      generalize (bits BinOp.and IntKind.u64 (b / 2 ^ k) 1 == 1) = q
      cases p <;> cases q
      · go_wp2_with fail
        go_round
        case rel => exact ⟨k + 1, x, y, z, by omega, rfl, rfl, rfl, by go_num, by omega, by omega, by omega, by omega, by omega⟩
        case measure => simp [intOf]; omega
      · go_wp2_with fail
        go_round
        case rel => exact ⟨k + 1, x, y + 1, z, by omega, rfl, by go_num, rfl, by go_num, by omega, by omega, by omega, by omega, by omega⟩
        case measure => simp [intOf]; omega
      · go_wp2_with fail
        go_round
        case rel => exact ⟨k + 1, x + 1, y, z, by omega, by go_num, rfl, rfl, by go_num, by omega, by omega, by omega, by omega, by omega⟩
        case measure => simp [intOf]; omega
      · go_wp2_with fail
        go_round
        case rel => exact ⟨k + 1, x + 1, y + 1, z + 1, by omega, by go_num, by go_num, by go_num, by go_num, by omega, by omega, by omega, by omega, by omega⟩
        case measure => simp [intOf]; omega
    · obtain rfl : n = k := by omega
      have hq := quorum_any ep A n cap (by omega)
      have hwk := weak_any ep A n cap (by omega)
      have hfa := faults_any ep A n cap (by omega)
      have g1 : quorumN n = (n + faultsN n) / 2 + 1 := rfl
      have g2 : faultsN n = (n - 1) / 3 := rfl
      generalize quorumN n = q at *
      generalize faultsN n = f at *
      have k1 : ((n : Int) - f ≥ q) := by omega
      have k2 : ((q : Int) > 2 * f) := by omega
      have k3 : ¬ (x : Int) < q → ¬ (y : Int) < q → (f : Int) + 1 ≤ z := by omega
      have k4 : (f : Int) ≤ 20 := by omega
      have k5 : (q : Int) ≤ 60 := by omega
      have hq := Lib.hid hq
      have hwk := Lib.hid hwk
      have hfa := Lib.hid hfa
      have B1 := Lib.hid (B0.out.later hb1)
      clear g1 g2 r1 r2 r3 r4 r5 hk hlt
      have hc : ((x : Int) < q) ∨ (¬ (x : Int) < q ∧ (y : Int) < q) ∨ (¬ (x : Int) < q ∧ ¬ (y : Int) < q ∧ (f : Int) + 1 ≤ z) := by
        by_cases e1 : (x : Int) < q
        · exact .inl e1
        · by_cases e2 : (y : Int) < q
          · exact .inr (.inl ⟨e1, e2⟩)
          · exact .inr (.inr ⟨e1, e2, k3 e1 e2⟩)
      clear k3
      go_wp2_with fail
      refine (hq.out _).mono ?_
      rintro e w2 ⟨rfl, hb2⟩
      obtain ⟨d0, d1, -⟩ := B1.out.later hb2
      have B2 := Lib.hid (B1.out.later hb2)
      obtain ⟨i2, j2⟩ := since (since hB (by simp) hb1).1 (since hB (by simp) hb1).2 hb2
      rcases hc with e1 | ⟨e1, e2⟩ | ⟨e1, e2, e3⟩
      · go_wp2_with fail
        refine (hfa.out _).mono ?_
        rintro e w3 ⟨rfl, hb3⟩
        obtain ⟨y0, y1, -⟩ := B2.out.later hb3
        have B3 := Lib.hid (B2.out.later hb3)
        go_wp2_with fail
        refine (hfa.out _).mono ?_
        rintro e w4 ⟨rfl, hb4⟩
        go_wp2_with fail
        go_ret
        obtain ⟨i3, j3⟩ := since i2 j2 hb3
        exact ⟨rfl, (since i3 j3 hb4).1⟩
      · go_wp2_with fail
        refine (hfa.out _).mono ?_
        rintro e w3 ⟨rfl, hb3⟩
        obtain ⟨y0, y1, -⟩ := B2.out.later hb3
        have B3 := Lib.hid (B2.out.later hb3)
        go_wp2_with fail
        refine (hfa.out _).mono ?_
        rintro e w4 ⟨rfl, hb4⟩
        go_wp2_with fail
        go_ret
        obtain ⟨i3, j3⟩ := since i2 j2 hb3
        exact ⟨rfl, (since i3 j3 hb4).1⟩
      · go_wp2_with fail
        refine (hwk.out _).mono ?_
        rintro e w5 ⟨rfl, hb5⟩
        obtain ⟨z0, z1, -⟩ := B2.out.later hb5
        have B5 := Lib.hid (B2.out.later hb5)
        go_wp2_with fail
        refine (hfa.out _).mono ?_
        rintro e w3 ⟨rfl, hb3⟩
        obtain ⟨y0, y1, -⟩ := B5.out.later hb3
        have B3 := Lib.hid (B5.out.later hb3)
        go_wp2_with fail
        refine (hfa.out _).mono ?_
        rintro e w4 ⟨rfl, hb4⟩
        go_wp2_with fail
        go_ret
        obtain ⟨i5, j5⟩ := since i2 j2 hb5
        obtain ⟨i3, j3⟩ := since i5 j5 hb3
        exact ⟨rfl, (since i3 j3 hb4).1⟩

theorem meets_walk (ep : Int) (A : Option Addr) (n cap : Nat) (a b : Int) (w : World) (we : (Lit.int .i64 ep).wf = true) (hn : n ≤ maxLen) (hm : n ≤ 140737488355328 → ∃ ms, MS w A n ms) (wa : (Lit.int .u64 a).wf = true) (wb : (Lit.int .u64 b).wf = true) :
    Calls Try.prog 3 #[.agg #[.int .i64 ep, .slice A n cap], .int .u64 a, .int .u64 b] w fun e w' => e = .returned (.bool true) ∧ Below w.heap.size w w' := by
  by_cases hl : 1 ≤ n ∧ n ≤ 60
  · exact meets_near ep A n cap a b w (by omega) (by omega)
  · exact meets_far ep A n cap a b w hl

set_option maxRecDepth 100000 in
theorem configMeets_lifted (os : Os) (started : os.Started) (H : Type) (enc : TypeId × Value → H) :
    ReturnsInHanded {} Try.checked os 3 .any (Rows.configMeetsSpec.pre6 enc Try.prog Try.f3 Rows.configMeetsRow.domain false) (Rows.configMeetsSpec.post enc Try.prog Try.f3 false true false false) := by
  refine returnsInHanded_of_change (C := Try.checked) own started (by kernel_rfl) Try.func3
    (ChangeSpec.witness6 (enc := enc) (C := Try.checked) false ⟨#[], #[.agg #[.int .i64 0, .slice none 0 0], .int .u64 0, .int .u64 0], []⟩ 8 (by kernel_rfl) (by kernel_rfl) (by kernel_rfl) (by kernel_rfl)) ?_
  intro W base args ds gs before hval0 hW hcnd _
  have hval : ∀ (j : Nat) t v, Try.f3.params[j]? = some t → args[j]? = some v → Value.okWide Try.prog W .any base t v := hval0
  have hW' := hW
  obtain ⟨p, q, hA0, hV, rfl, hfz, hnd⟩ := hW
  have hA : DataW.TrodAll enc Try.prog W 0 (fun _ => true) true Try.f3.params.toList args.toList ds p := hA0
  rw [Try.params3] at hA hval
  obtain ⟨v0, vs0, d0, ds0, p0, q0, hargs, rfl, rfl, h0, r0⟩ := trodAll_cons hA
  obtain ⟨v1, vs1, d1, ds1, p1, q1, rfl, rfl, rfl, h1, r1⟩ := trodAll_cons r0
  obtain ⟨v2, vs2, d2, ds2, p2, q2, rfl, rfl, rfl, h2, r2⟩ := trodAll_cons r1
  obtain ⟨rfl, rfl, rfl⟩ := trodAll_nil r2
  obtain rfl : args = #[v0, v1, v2] := by cases args; simp_all
  obtain ⟨rfl, rfl⟩ := trodVars_none hV
  have k0 := h0
  have lt0 : ∀ x ∈ p0, x.block < W.heap.size := by obtain ⟨m, hm⟩ := k0; exact DataW.trod_lt m _ _ _ hm
  obtain ⟨e0, A0, n0, c0, rfl, we0, wn0, wm0⟩ := open_config (hval 0 24 v0 rfl rfl) h0
  obtain ⟨a1, rfl, rfl, rfl, w1⟩ := open_int Try.underlying25 (hval 1 25 v1 rfl rfl) h1
  obtain ⟨a2, rfl, rfl, rfl, w2⟩ := open_int Try.underlying25 (hval 2 25 v2 rfl rfl) h2
  clear hA0 hval0
  refine (meets_walk e0 A0 n0 c0 a1 a2 W we0 wn0 wm0 w1 w2).mono fun e W' ⟨he, bel⟩ => ?_
  subst he
  exact ⟨_, rfl, _, _, _, [], _, [], hW', trodAll_mk1 (shut_bool Try.underlying4 _), (trodAll_cons_mk (Below.trod laidOut (by kernel_rfl) (of_decide_eq_true (by kernel_rfl)) k0 bel lt0) (trodAll_cons_mk (shut_int Try.underlying25 w1) (trodAll_cons_mk (shut_int Try.underlying25 w2) trodAll_mk0))), rfl, bel.frame _, fun h => by cases h⟩

theorem configMeets_holds : Rows.ConfigMeetsSaid :=
  OpenClaim.holds_of_wide 3 Try.f3 rfl rfl rfl rfl rfl rfl rfl ⟨rfl, rfl, rfl, rfl, rfl⟩ rfl rfl rfl rfl rfl (by kernel_rfl) Try.func3 (by kernel_rfl)
    (of_decide_eq_true (by kernel_rfl)) (by unfold Func.isWrapper; first | (rw [if_pos (by decide +kernel)]; kernel_rfl) | (rw [if_neg (by decide +kernel)]; exact ⟨rfl, rfl⟩))
    (fun os started H enc _ => configMeets_lifted os started H enc)


end Go.Proofs.Ytmiaffgjfpjhfaa
