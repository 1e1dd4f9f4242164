/-
RankWaits: Patience never falls with the rounds, nor with the base, and is at most 2^30. No condition.
-/
import Derived.Test.YtjifjdmlgbbfdaaH
namespace Go.Proofs.Ytjifjdmlgbbfdaa
open Go.ChangeShapes Go.WideShapes Go.ChangeAt Go.RowKit
set_option linter.unusedVariables false
set_option linter.unusedSimpArgs false
set_option maxHeartbeats 1000000 in
theorem waits_walk (base more height round : Int) (w : World) (w0 : (Lit.int .i64 base).wf = true) (w1 : (Lit.int .i64 more).wf = true) (w2 : (Lit.int .i64 height).wf = true) (w3 : (Lit.int .i64 round).wf = true) :
    Calls Try.prog 5 #[.int .i64 base, .int .i64 more, .int .i64 height, .int .i64 round] w fun e w' => e = .returned (.bool true) ∧ Below w.heap.size w w' := by
  have k40 := Lib.hid (show pat 10 2 = 40 by decide)
  obtain ⟨x1, x2⟩ := wf_i64_bounds w2
  obtain ⟨x3, x4⟩ := wf_i64_bounds w3
  obtain ⟨va, ha⟩ := F_val_some (n := height) (by omega) (by omega)
  obtain ⟨vb, hb⟩ := F_val_some (n := round) (by omega) (by omega)
  obtain ⟨z, y, hz, hy⟩ := next_add ha hb
  clear w0 w1 w2 w3 ha hb x1 x2 x3 x4
  obtain ⟨a, hFa⟩ : ∃ a, F height = a := ⟨_, rfl⟩
  obtain ⟨b, hFb⟩ : ∃ b, F round = b := ⟨_, rfl⟩
  have hat := Lib.hid (at_any height round)
  rw [hFa, hFb] at hat
  rw [hFa] at hz
  rw [hFb] at hy
  clear hFa hFb
  have HZ := Lib.hid hz
  have HY := Lib.hid hy
  clear hz hy
  rcases pl_or z y with ⟨h, n, p⟩ | p
  · rcases pl_or a b with ⟨h', n', p'⟩ | p'
    · obtain ⟨v1, v2⟩ := next_pl p' HZ.out HY.out
      have e1 : h = h' := val_uniq p.1.2.2 v1
      have e2 : n = n' + 1 := val_uniq p.2.2.2 v2
      subst e1; subst e2
      obtain ⟨b1, b2⟩ := pat_bounds base n'
      have b3 := pat_round base n'
      clear v1 v2
      by_cases hm : more < base
      · go_enter Try.func5, Try.ntmps5
        go_wp2_with fail
        refine (patience_yes 10 pl32 _).mono ?_
        rw [k40.out]
        rintro e w' ⟨rfl, rfl⟩
        go_wp2_with fail
        refine (hat.out _).mono ?_
        rintro e w' ⟨rfl, rfl⟩
        go_wp2_with fail
        refine (next_any HZ.out HY.out _).mono ?_
        rintro e w' ⟨rfl, rfl⟩
        go_wp2_with fail
        refine (good_yes p _).mono ?_
        rintro e w' ⟨rfl, rfl⟩
        go_wp2_with fail
        refine (good_yes p' _).mono ?_
        rintro e w' ⟨rfl, rfl⟩
        go_wp2_with fail
        go_ret
        exact ⟨rfl, Below.refl _ _⟩
      · have b4 := pat_base (base := base) (more := more) n' (by omega)
        go_enter Try.func5, Try.ntmps5
        go_wp2_with fail
        refine (patience_yes 10 pl32 _).mono ?_
        rw [k40.out]
        rintro e w' ⟨rfl, rfl⟩
        go_wp2_with fail
        refine (hat.out _).mono ?_
        rintro e w' ⟨rfl, rfl⟩
        go_wp2_with fail
        refine (next_any HZ.out HY.out _).mono ?_
        rintro e w' ⟨rfl, rfl⟩
        go_wp2_with fail
        refine (good_yes p _).mono ?_
        rintro e w' ⟨rfl, rfl⟩
        go_wp2_with fail
        refine (good_yes p' _).mono ?_
        rintro e w' ⟨rfl, rfl⟩
        go_wp2_with fail
        refine (patience_yes base p' _).mono ?_
        rintro e w' ⟨rfl, rfl⟩
        go_wp2_with fail
        refine (next_any HZ.out HY.out _).mono ?_
        rintro e w' ⟨rfl, rfl⟩
        go_wp2_with fail
        refine (patience_yes base p _).mono ?_
        rintro e w' ⟨rfl, rfl⟩
        go_wp2_with fail
        refine (patience_yes more p' _).mono ?_
        rintro e w' ⟨rfl, rfl⟩
        go_wp2_with fail
        go_ret
        exact ⟨rfl, Below.refl _ _⟩
    · have P' := Lib.hid p'
      clear p'
      go_enter Try.func5, Try.ntmps5
      go_wp2_with fail
      refine (patience_yes 10 pl32 _).mono ?_
      rw [k40.out]
      rintro e w' ⟨rfl, rfl⟩
      go_wp2_with fail
      refine (hat.out _).mono ?_
      rintro e w' ⟨rfl, rfl⟩
      go_wp2_with fail
      refine (next_any HZ.out HY.out _).mono ?_
      rintro e w' ⟨rfl, rfl⟩
      go_wp2_with fail
      refine (good_yes p _).mono ?_
      rintro e w' ⟨rfl, rfl⟩
      go_wp2_with fail
      refine (good_no P'.out _).mono ?_
      rintro e w' ⟨rfl, rfl⟩
      go_wp2_with fail
      go_ret
      exact ⟨rfl, Below.refl _ _⟩
  · have P := Lib.hid p
    clear p
    go_enter Try.func5, Try.ntmps5
    go_wp2_with fail
    refine (patience_yes 10 pl32 _).mono ?_
    rw [k40.out]
    rintro e w' ⟨rfl, rfl⟩
    go_wp2_with fail
    refine (hat.out _).mono ?_
    rintro e w' ⟨rfl, rfl⟩
    go_wp2_with fail
    refine (next_any HZ.out HY.out _).mono ?_
    rintro e w' ⟨rfl, rfl⟩
    go_wp2_with fail
    refine (good_no P.out _).mono ?_
    rintro e w' ⟨rfl, rfl⟩
    go_wp2_with fail
    go_ret
    exact ⟨rfl, Below.refl _ _⟩

set_option maxRecDepth 100000 in
theorem rankWaits_lifted (os : Os) (started : os.Started) (H : Type) (enc : TypeId × Value → H) :
    ReturnsInHanded {} Try.checked os 5 .any (Rows.rankWaitsSpec.pre6 enc Try.prog Try.f5 Rows.rankWaitsRow.domain false) (Rows.rankWaitsSpec.post enc Try.prog Try.f5 false true false false) := by
  refine returnsInHanded_of_change (C := Try.checked) own started (by kernel_rfl) Try.func5
    (ChangeSpec.witness6 (enc := enc) (C := Try.checked) false ⟨#[], #[.int .i64 0, .int .i64 0, .int .i64 0, .int .i64 0], []⟩ 8 (by kernel_rfl) (by kernel_rfl) (by kernel_rfl) (by kernel_rfl)) ?_
  intro W base args ds gs before hval0 hW hcnd _
  have hval : ∀ (j : Nat) t v, Try.f5.params[j]? = some t → args[j]? = some v → Value.okWide Try.prog W .any base t v := hval0
  have hW' := hW
  obtain ⟨p, q, hA0, hV, rfl, hfz, hnd⟩ := hW
  have hA : DataW.TrodAll enc Try.prog W 0 (fun _ => true) true Try.f5.params.toList args.toList ds p := hA0
  rw [Try.params5] at hA hval
  obtain ⟨v0, vs0, d0, ds0, p0, q0, hargs, rfl, rfl, h0, r0⟩ := trodAll_cons hA
  obtain ⟨v1, vs1, d1, ds1, p1, q1, rfl, rfl, rfl, h1, r1⟩ := trodAll_cons r0
  obtain ⟨v2, vs2, d2, ds2, p2, q2, rfl, rfl, rfl, h2, r2⟩ := trodAll_cons r1
  obtain ⟨v3, vs3, d3, ds3, p3, q3, rfl, rfl, rfl, h3, r3⟩ := trodAll_cons r2
  obtain ⟨rfl, rfl, rfl⟩ := trodAll_nil r3
  obtain rfl : args = #[v0, v1, v2, v3] := by cases args; simp_all
  obtain ⟨rfl, rfl⟩ := trodVars_none hV
  obtain ⟨a0, rfl, rfl, rfl, w0⟩ := open_int Try.underlying3 (hval 0 3 v0 rfl rfl) h0
  obtain ⟨a1, rfl, rfl, rfl, w1⟩ := open_int Try.underlying3 (hval 1 3 v1 rfl rfl) h1
  obtain ⟨a2, rfl, rfl, rfl, w2⟩ := open_int Try.underlying3 (hval 2 3 v2 rfl rfl) h2
  obtain ⟨a3, rfl, rfl, rfl, w3⟩ := open_int Try.underlying3 (hval 3 3 v3 rfl rfl) h3
  clear hA0 hval0
  refine (waits_walk a0 a1 a2 a3 W w0 w1 w2 w3).mono fun e W' ⟨he, bel⟩ => ?_
  subst he
  exact ⟨_, rfl, _, _, _, [], _, [], hW', trodAll_mk1 (shut_bool Try.underlying4 _), (trodAll_cons_mk (shut_int Try.underlying3 w0) (trodAll_cons_mk (shut_int Try.underlying3 w1) (trodAll_cons_mk (shut_int Try.underlying3 w2) (trodAll_cons_mk (shut_int Try.underlying3 w3) trodAll_mk0)))), rfl, bel.frame _, fun h => by cases h⟩

theorem rankWaits_holds : Rows.RankWaitsSaid :=
  OpenClaim.holds_of_wide 5 Try.f5 rfl rfl rfl rfl rfl rfl rfl ⟨rfl, rfl, rfl, rfl, rfl⟩ rfl rfl rfl rfl rfl (by kernel_rfl) Try.func5 (by kernel_rfl)
    (of_decide_eq_true (by kernel_rfl)) (by unfold Func.isWrapper; first | (rw [if_pos (by decide +kernel)]; kernel_rfl) | (rw [if_neg (by decide +kernel)]; exact ⟨rfl, rfl⟩))
    (fun os started H enc _ => rankWaits_lifted os started H enc)


end Go.Proofs.Ytjifjdmlgbbfdaa
