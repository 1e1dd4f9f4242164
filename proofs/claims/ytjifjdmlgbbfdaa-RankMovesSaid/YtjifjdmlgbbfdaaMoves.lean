/-
RankMoves: Next and Rise answer what the document says: of places they are behind them, and no place is between. No condition.
-/
import Derived.Test.YtjifjdmlgbbfdaaH
namespace Go.Proofs.Ytjifjdmlgbbfdaa
open Go.ChangeShapes Go.WideShapes Go.ChangeAt Go.RowKit
set_option linter.unusedVariables false
set_option linter.unusedSimpArgs false

theorem cmp_diag {x : Nat} {n : Int} (h : val (Ieee.double.read x) = some (n * U)) (k1 : -(2 ^ 53) < n) (k2 : n < 2 ^ 53) : (FloatKind.f64.format.order x (floatOfInt .f64 n) == some .eq) = true := by
  rw [beq_iff_eq]; exact (eq_iff k1 k2).2 h

theorem moves_no (height round other more : Int) (w : World) (ng : goodA (F height) (F round) = false) :
    Calls Try.prog 4 #[.int .i64 height, .int .i64 round, .int .i64 other, .int .i64 more] w fun e w' => e = .returned (.bool true) ∧ Below w.heap.size w w' := by
  have a1 : Ieee.double.add 4613937818241073152 0 = some 4613937818241073152 := by kernel_rfl
  have a2 : Ieee.double.add 4611686018427387904 4607182418800017408 = some 4613937818241073152 := by decide
  have a3 : Ieee.double.add 4613937818241073152 4607182418800017408 = some 4616189618054758400 := by decide
  have A1 := Lib.hid a1; have A2 := Lib.hid a2; have A3 := Lib.hid a3
  clear a1 a2 a3
  have c3 : (FloatKind.f64.format.order 4613937818241073152 4613937818241073152 == some .eq) = true := by decide
  have c4 : (FloatKind.f64.format.order 4616189618054758400 4616189618054758400 == some .eq) = true := by decide
  have c0 : (FloatKind.f64.format.order 0 0 == some .eq) = true := by decide
  go_enter Try.func4, Try.ntmps4
  go_wp2_with fail
  refine (next_any A1.out A2.out _).mono ?_
  rintro e w' ⟨rfl, rfl⟩
  go_wp2_with fail
  refine (rise_any _ A3.out _).mono ?_
  rintro e w' ⟨rfl, rfl⟩
  go_wp2_with fail
  refine (at_any _ _ _).mono ?_
  rintro e w' ⟨rfl, rfl⟩
  go_wp2_with fail
  refine (good_any _ _ _).mono ?_
  rintro e w' ⟨rfl, rfl⟩
  go_wp2_with fail
  go_ret
  exact ⟨rfl, Below.refl _ _⟩

set_option maxHeartbeats 2000000 in
theorem moves_yes (h n other more : Int) (w : World) (p : Pl (F h) (F n) h n) :
    Calls Try.prog 4 #[.int .i64 h, .int .i64 n, .int .i64 other, .int .i64 more] w fun e w' => e = .returned (.bool true) ∧ Below w.heap.size w w' := by
  have a1 : Ieee.double.add 4613937818241073152 0 = some 4613937818241073152 := by kernel_rfl
  have a2 : Ieee.double.add 4611686018427387904 4607182418800017408 = some 4613937818241073152 := by decide
  have a3 : Ieee.double.add 4613937818241073152 4607182418800017408 = some 4616189618054758400 := by decide
  have A1 := Lib.hid a1; have A2 := Lib.hid a2; have A3 := Lib.hid a3
  clear a1 a2 a3
  have c3 : (FloatKind.f64.format.order 4613937818241073152 4613937818241073152 == some .eq) = true := by decide
  have c4 : (FloatKind.f64.format.order 4616189618054758400 4616189618054758400 == some .eq) = true := by decide
  have c0 : (FloatKind.f64.format.order 0 0 == some .eq) = true := by decide
  have c00 : (FloatKind.f64.format.order 0 (floatOfInt .f64 0) == some .eq) = true := by decide
  obtain ⟨z, y, hz, hy⟩ := next_add p.1.2.2 p.2.2.2
  obtain ⟨u, hu⟩ := add_any (y := 4607182418800017408) p.1.2.2 (by rw [← F1]; exact val_F (by omega) (by omega))
  obtain ⟨v1, v2⟩ := next_pl p hz hy
  have v3 := rise_pl p.1 hu
  have h0 : 1 ≤ h := p.1.1
  have h1 : h ≤ 1024 := p.1.2.1
  have n0 : 0 ≤ n := p.2.1
  have n1 : n ≤ 1024 := p.2.2.1
  have d1 := cmp_diag v1 (by omega) (by omega)
  have d2 := cmp_diag v2 (by omega) (by omega)
  have d3 := cmp_diag v3 (by omega) (by omega)
  have g0 := goodA_yes p
  have HZ := Lib.hid hz; have HY := Lib.hid hy; have HU := Lib.hid hu
  clear hz hy hu
  -- the next round's place
  have gn : (n < 1024 ∧ Pl z y h (n + 1)) ∨ (¬ n < 1024 ∧ NoPl z y) := by
    by_cases c : n < 1024
    · exact .inl ⟨c, ⟨h0, h1, v1⟩, ⟨by omega, by omega, v2⟩⟩
    · refine .inr ⟨c, fun h' n' q => ?_⟩
      have := val_uniq v2 q.2.2.2
      have := q.2.2.1
      omega
  have gu : (h < 1024 ∧ Pl u 0 (h + 1) 0) ∨ (¬ h < 1024 ∧ NoPl u 0) := by
    by_cases c : h < 1024
    · exact .inl ⟨c, ⟨by omega, by omega, v3⟩, is_const F0 (by omega) (by omega) (by omega) (by omega)⟩
    · refine .inr ⟨c, fun h' n' q => ?_⟩
      have := val_uniq v3 q.1.2.2
      have := q.1.2.1
      omega
  -- no place is between
  have gb : lessA (F h) (F n) (F other) (F more) = false ∨ (lessA (F h) (F n) (F other) (F more) = true ∧ lessA (F other) (F more) z y = false) := by
    rcases pl_or (F other) (F more) with ⟨k, m, q⟩ | q
    · rcases gn with ⟨_, r⟩ | ⟨_, r⟩
      · rw [lessA_yes p q, lessA_yes q r]
        unfold lessB
        by_cases c : h < k ∨ h = k ∧ n < m
        · refine .inr ⟨decide_eq_true c, decide_eq_false ?_⟩
          omega
        · exact .inl (decide_eq_false c)
      · rw [lessA_no (c := z) (d := y) (.inr r)]
        cases lessA (F h) (F n) (F other) (F more) <;> simp
    · exact .inl (lessA_no (.inr q))
  have gn' : (n < 1024 ∧ goodA z y = true ∧ lessA (F h) (F n) z y = true) ∨ (¬ n < 1024 ∧ goodA z y = false) := by
    rcases gn with ⟨c, q⟩ | ⟨c, q⟩
    · refine .inl ⟨c, goodA_yes q, ?_⟩
      rw [lessA_yes p q]; unfold lessB; exact decide_eq_true (by omega)
    · exact .inr ⟨c, goodA_no q⟩
  have gu' : (h < 1024 ∧ goodA u 0 = true ∧ lessA (F h) (F n) u 0 = true) ∨ (¬ h < 1024 ∧ goodA u 0 = false) := by
    rcases gu with ⟨c, q⟩ | ⟨c, q⟩
    · refine .inl ⟨c, goodA_yes q, ?_⟩
      rw [lessA_yes p q]; unfold lessB; exact decide_eq_true (by omega)
    · exact .inr ⟨c, goodA_no q⟩
  clear gn gu v1 v2 v3 p
  rcases gn' with ⟨k1, k2, k3⟩ | ⟨k1, k2⟩ <;> rcases gu' with ⟨l1, l2, l3⟩ | ⟨l1, l2⟩ <;> rcases gb with m1 | ⟨m1, m2⟩
  all_goals
    go_enter Try.func4, Try.ntmps4
    go_wp2_with fail
    refine (next_any A1.out A2.out _).mono ?_
    rintro e w' ⟨rfl, rfl⟩
    go_wp2_with fail
    refine (rise_any _ A3.out _).mono ?_
    rintro e w' ⟨rfl, rfl⟩
    go_wp2_with fail
    refine (at_any _ _ _).mono ?_
    rintro e w' ⟨rfl, rfl⟩
    go_wp2_with fail
    refine (good_any _ _ _).mono ?_
    rintro e w' ⟨rfl, rfl⟩
    go_wp2_with fail
    refine (next_any HZ.out HY.out _).mono ?_
    rintro e w' ⟨rfl, rfl⟩
    go_wp2_with fail
    refine (rise_any _ HU.out _).mono ?_
    rintro e w' ⟨rfl, rfl⟩
    go_wp2_with (first | (go_at_call 13; refine (at_any _ _ _).mono ?_; rintro e w' ⟨rfl, rfl⟩) | (go_at_call 10; refine (good_any _ _ _).mono ?_; rintro e w' ⟨rfl, rfl⟩) | (go_at_call 8; refine (less_any _ _ _ _ _).mono ?_; rintro e w' ⟨rfl, rfl⟩))
    go_ret
    exact ⟨rfl, Below.refl _ _⟩

theorem moves_walk (height round other more : Int) (w : World) (w0 : (Lit.int .i64 height).wf = true) (w1 : (Lit.int .i64 round).wf = true) (w2 : (Lit.int .i64 other).wf = true) (w3 : (Lit.int .i64 more).wf = true) :
    Calls Try.prog 4 #[.int .i64 height, .int .i64 round, .int .i64 other, .int .i64 more] w fun e w' => e = .returned (.bool true) ∧ Below w.heap.size w w' := by
  obtain ⟨x1, x2⟩ := wf_i64_bounds w0
  obtain ⟨x3, x4⟩ := wf_i64_bounds w1
  rcases pl_or (F height) (F round) with ⟨h, n, p⟩ | p
  · have e1 : height = h := F_inj (by omega) (by omega) (by have := p.1.1; omega) (by have := p.1.2.1; omega) p.1.2.2
    have e2 : round = n := F_inj (by omega) (by omega) (by have := p.2.1; omega) (by have := p.2.2.1; omega) p.2.2.2
    subst e1; subst e2
    exact moves_yes height round other more w p
  · exact moves_no height round other more w (goodA_no p)

set_option maxRecDepth 100000 in
theorem rankMoves_lifted (os : Os) (started : os.Started) (H : Type) (enc : TypeId × Value → H) :
    ReturnsInHanded {} Try.checked os 4 .any (Rows.rankMovesSpec.pre6 enc Try.prog Try.f4 Rows.rankMovesRow.domain false) (Rows.rankMovesSpec.post enc Try.prog Try.f4 false true false false) := by
  refine returnsInHanded_of_change (C := Try.checked) own started (by kernel_rfl) Try.func4
    (ChangeSpec.witness6 (enc := enc) (C := Try.checked) false ⟨#[], #[.int .i64 0, .int .i64 0, .int .i64 0, .int .i64 0], []⟩ 8 (by kernel_rfl) (by kernel_rfl) (by kernel_rfl) (by kernel_rfl)) ?_
  intro W base args ds gs before hval0 hW hcnd _
  have hval : ∀ (j : Nat) t v, Try.f4.params[j]? = some t → args[j]? = some v → Value.okWide Try.prog W .any base t v := hval0
  have hW' := hW
  obtain ⟨p, q, hA0, hV, rfl, hfz, hnd⟩ := hW
  have hA : DataW.TrodAll enc Try.prog W 0 (fun _ => true) true Try.f4.params.toList args.toList ds p := hA0
  rw [Try.params4] at hA hval
  obtain ⟨v0, vs0, d0, ds0, p0, q0, hargs, rfl, rfl, h0, r0⟩ := trodAll_cons hA
  obtain ⟨v1, vs1, d1, ds1, p1, q1, rfl, rfl, rfl, h1, r1⟩ := trodAll_cons r0
  obtain ⟨v2, vs2, d2, ds2, p2, q2, rfl, rfl, rfl, h2, r2⟩ := trodAll_cons r1
  obtain ⟨v3, vs3, d3, ds3, p3, q3, rfl, rfl, rfl, h3, r3⟩ := trodAll_cons r2
  obtain ⟨rfl, rfl, rfl⟩ := trodAll_nil r3
  obtain rfl : args = #[v0, v1, v2, v3] := by cases args; simp_all
  obtain ⟨rfl, rfl⟩ := trodVars_none hV
  obtain ⟨a0, rfl, rfl, rfl, w0⟩ := open_int Try.underlying3 (hval 0 3 v0 rfl rfl) h0
  obtain ⟨a1, rfl, rfl, rfl, w1⟩ := open_int Try.underlying3 (hval 1 3 v1 rfl rfl) h1
  obtain ⟨a2, rfl, rfl, rfl, w2⟩ := open_int Try.underlying3 (hval 2 3 v2 rfl rfl) h2
  obtain ⟨a3, rfl, rfl, rfl, w3⟩ := open_int Try.underlying3 (hval 3 3 v3 rfl rfl) h3
  clear hA0 hval0
  refine (moves_walk a0 a1 a2 a3 W w0 w1 w2 w3).mono fun e W' ⟨he, bel⟩ => ?_
  subst he
  exact ⟨_, rfl, _, _, _, [], _, [], hW', trodAll_mk1 (shut_bool Try.underlying4 _), (trodAll_cons_mk (shut_int Try.underlying3 w0) (trodAll_cons_mk (shut_int Try.underlying3 w1) (trodAll_cons_mk (shut_int Try.underlying3 w2) (trodAll_cons_mk (shut_int Try.underlying3 w3) trodAll_mk0)))), rfl, bel.frame _, fun h => by cases h⟩

theorem rankMoves_holds : Rows.RankMovesSaid :=
  OpenClaim.holds_of_wide 4 Try.f4 rfl rfl rfl rfl rfl rfl rfl ⟨rfl, rfl, rfl, rfl, rfl⟩ rfl rfl rfl rfl rfl (by kernel_rfl) Try.func4 (by kernel_rfl)
    (of_decide_eq_true (by kernel_rfl)) (by unfold Func.isWrapper; first | (rw [if_pos (by decide +kernel)]; kernel_rfl) | (rw [if_neg (by decide +kernel)]; exact ⟨rfl, rfl⟩))
    (fun os started H enc _ => rankMoves_lifted os started H enc)


end Go.Proofs.Ytjifjdmlgbbfdaa
