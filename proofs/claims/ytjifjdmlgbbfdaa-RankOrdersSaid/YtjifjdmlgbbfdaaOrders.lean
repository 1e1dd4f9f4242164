/-
RankOrders: Less answers what the document says, of all numbers; of two places that aren't the same one is ahead. No condition.
-/
import Derived.Test.YtjifjdmlgbbfdaaH
namespace Go.Proofs.Ytjifjdmlgbbfdaa
open Go.ChangeShapes Go.WideShapes Go.ChangeAt Go.RowKit
set_option linter.unusedVariables false
set_option linter.unusedSimpArgs false

theorem lessA_self (a b : Nat) : lessA a b a b = false := by
  rcases pl_or a b with ⟨h, n, p⟩ | p
  · rw [lessA_yes p p]; unfold lessB; exact decide_eq_false (by omega)
  · exact lessA_no (.inl p)
theorem lessA_trans {a b c d e f : Nat} (h1 : lessA a b c d = true) (h2 : lessA c d e f = true) : lessA a b e f = true := by
  rcases pl_or a b with ⟨h, n, p⟩ | p
  · rcases pl_or c d with ⟨k, m, q⟩ | q
    · rcases pl_or e f with ⟨i, j, r⟩ | r
      · rw [lessA_yes p q] at h1
        rw [lessA_yes q r] at h2
        rw [lessA_yes p r]
        unfold lessB at *
        rw [decide_eq_true_eq] at *
        omega
      · rw [lessA_no (.inr r)] at h2; cases h2
    · rw [lessA_no (.inr q)] at h1; cases h1
  · rw [lessA_no (.inl p)] at h1; cases h1
/-- of two places that aren't the same one is ahead -/
theorem lessA_conn {a b c d : Nat} (h1 : goodA a b = true) (h2 : goodA c d = true)
    (h3 : (FloatKind.f64.format.order a c == some .eq && FloatKind.f64.format.order b d == some .eq) = false) : (lessA a b c d != lessA c d a b) = true := by
  rcases pl_or a b with ⟨h, n, p⟩ | p
  · rcases pl_or c d with ⟨k, m, q⟩ | q
    · rw [lessA_yes p q, lessA_yes q p]
      have hne : ¬ (h = k ∧ n = m) := by
        rintro ⟨rfl, rfl⟩
        have e1 : FloatKind.f64.format.order a c = some .eq := by
          have := ord_of_val p.1.2.2 q.1.2.2
          rw [cmp_eq] at this
          exact this
        have e2 : FloatKind.f64.format.order b d = some .eq := by
          have := ord_of_val p.2.2.2 q.2.2.2
          rw [cmp_eq] at this
          exact this
        rw [e1, e2] at h3
        exact absurd h3 (by decide)
      unfold lessB
      rw [bne_iff_ne, ne_eq, decide_eq_decide]
      omega
    · rw [goodA_no q] at h2; cases h2
  · rw [goodA_no p] at h1; cases h1

/-- what the tests of a law say of three numbers -/
theorem orders_ways (a b c d e f : Nat) :
    ((lessA a b c d = false) ∨ (lessA a b c d = true ∧ lessA c d e f = false) ∨ (lessA a b c d = true ∧ lessA c d e f = true ∧ lessA a b e f = true)) ∧
    ((goodA a b = false) ∨ (goodA a b = true ∧ goodA c d = false) ∨ (goodA a b = true ∧ goodA c d = true ∧ (FloatKind.f64.format.order a c == some .eq && FloatKind.f64.format.order b d == some .eq) = true) ∨
      (goodA a b = true ∧ goodA c d = true ∧ (FloatKind.f64.format.order a c == some .eq && FloatKind.f64.format.order b d == some .eq) = false ∧ lessA c d a b = !lessA a b c d)) := by
  constructor
  · cases h1 : lessA a b c d
    · exact .inl rfl
    · cases h2 : lessA c d e f
      · exact .inr (.inl ⟨rfl, rfl⟩)
      · exact .inr (.inr ⟨rfl, rfl, lessA_trans h1 h2⟩)
  · cases h1 : goodA a b
    · exact .inl rfl
    · cases h2 : goodA c d
      · exact .inr (.inl ⟨rfl, rfl⟩)
      · cases h3 : (FloatKind.f64.format.order a c == some .eq && FloatKind.f64.format.order b d == some .eq)
        · have := lessA_conn h1 h2 h3
          refine .inr (.inr (.inr ⟨rfl, rfl, rfl, ?_⟩))
          revert this
          cases lessA a b c d <;> cases lessA c d a b <;> simp
        · exact .inr (.inr (.inl ⟨rfl, rfl, rfl⟩))

set_option maxHeartbeats 4000000 in
theorem orders_walk (a0 b0 a1 b1 a2 b2 : Nat) (w : World) :
    Calls Try.prog 3 #[.agg #[.float .f64 a0, .float .f64 b0], .agg #[.float .f64 a1, .float .f64 b1], .agg #[.float .f64 a2, .float .f64 b2]] w fun e w' => e = .returned (.bool true) ∧ Below w.heap.size w w' := by
  have k1 := (lessA_yes pl32 pl33).trans (show lessB 3 2 3 3 = true by decide)
  have k2 := (lessA_yes pl40 pl33).trans (show lessB 4 0 3 3 = false by decide)
  have k3 := lessA_self a0 b0
  obtain ⟨W1, W2⟩ := orders_ways a0 b0 a1 b1 a2 b2
  rcases W1 with l1 | ⟨l1, l2⟩ | ⟨l1, l2, l3⟩ <;> rcases W2 with m1 | ⟨m1, m2⟩ | ⟨m1, m2, m3⟩ | ⟨m1, m2, m3, m4⟩
  all_goals
    (try rw [l1] at m4)
    (try simp only [Bool.not_true, Bool.not_false] at m4)
    go_enter Try.func3, Try.ntmps3
    go_wp2_with fail
    refine (less_any _ _ _ _ _).mono ?_
    rintro e w' ⟨rfl, rfl⟩
    go_wp2_with fail
    refine (less_any _ _ _ _ _).mono ?_
    rintro e w' ⟨rfl, rfl⟩
    go_wp2_with fail
    go_quiet (fail)
    go_wp2_with (first | (go_at_call 9; refine (refless_any _ _ _ _ _).mono ?_; rintro e w' ⟨rfl, rfl⟩) | (go_at_call 10; refine (good_any _ _ _).mono ?_; rintro e w' ⟨rfl, rfl⟩) | (go_at_call 8; refine (less_any _ _ _ _ _).mono ?_; rintro e w' ⟨rfl, rfl⟩))
    go_ret
    exact ⟨rfl, below_drewN ((((Below.refl _ _).alloc (Nat.le_refl _) _).alloc (by simp) _).alloc (by simp; omega) _) _⟩

set_option maxRecDepth 100000 in
theorem rankOrders_lifted (os : Os) (started : os.Started) (H : Type) (enc : TypeId × Value → H) :
    ReturnsInHanded {} Try.checked os 3 .any (Rows.rankOrdersSpec.pre6 enc Try.prog Try.f3 Rows.rankOrdersRow.domain false) (Rows.rankOrdersSpec.post enc Try.prog Try.f3 false true false false) := by
  refine returnsInHanded_of_change (C := Try.checked) own started (by kernel_rfl) Try.func3
    (ChangeSpec.witness6 (enc := enc) (C := Try.checked) false ⟨#[], #[.agg #[.float .f64 0, .float .f64 0], .agg #[.float .f64 0, .float .f64 0], .agg #[.float .f64 0, .float .f64 0]], []⟩ 8 (by kernel_rfl) (by kernel_rfl) (by kernel_rfl) (by kernel_rfl)) ?_
  intro W base args ds gs before hval0 hW hcnd _
  have hval : ∀ (j : Nat) t v, Try.f3.params[j]? = some t → args[j]? = some v → Value.okWide Try.prog W .any base t v := hval0
  have hW' := hW
  obtain ⟨p, q, hA0, hV, rfl, hfz, hnd⟩ := hW
  have hA : DataW.TrodAll enc Try.prog W 0 (fun _ => true) true Try.f3.params.toList args.toList ds p := hA0
  rw [Try.params3] at hA hval
  obtain ⟨v0, vs0, d0, ds0, p0, q0, hargs, rfl, rfl, h0, r0⟩ := trodAll_cons hA
  obtain ⟨v1, vs1, d1, ds1, p1, q1, rfl, rfl, rfl, h1, r1⟩ := trodAll_cons r0
  obtain ⟨v2, vs2, d2, ds2, p2, q2, rfl, rfl, rfl, h2, r2⟩ := trodAll_cons r1
  obtain ⟨rfl, rfl, rfl⟩ := trodAll_nil r2
  obtain rfl : args = #[v0, v1, v2] := by cases args; simp_all
  obtain ⟨rfl, rfl⟩ := trodVars_none hV
  have k0 := h0
  have lt0 : ∀ x ∈ p0, x.block < W.heap.size := by obtain ⟨m, hm⟩ := k0; exact DataW.trod_lt m _ _ _ hm
  obtain ⟨a0, b0, rfl⟩ := open_arr2f Try.underlying23 Try.underlying22 (by kernel_rfl) (by kernel_rfl) (hval 0 23 v0 rfl rfl) h0
  have k1 := h1
  have lt1 : ∀ x ∈ p1, x.block < W.heap.size := by obtain ⟨m, hm⟩ := k1; exact DataW.trod_lt m _ _ _ hm
  obtain ⟨a1, b1, rfl⟩ := open_arr2f Try.underlying23 Try.underlying22 (by kernel_rfl) (by kernel_rfl) (hval 1 23 v1 rfl rfl) h1
  have k2 := h2
  have lt2 : ∀ x ∈ p2, x.block < W.heap.size := by obtain ⟨m, hm⟩ := k2; exact DataW.trod_lt m _ _ _ hm
  obtain ⟨a2, b2, rfl⟩ := open_arr2f Try.underlying23 Try.underlying22 (by kernel_rfl) (by kernel_rfl) (hval 2 23 v2 rfl rfl) h2
  clear hA0 hval0
  refine (orders_walk a0 b0 a1 b1 a2 b2 W ).mono fun e W' ⟨he, bel⟩ => ?_
  subst he
  exact ⟨_, rfl, _, _, _, [], _, [], hW', trodAll_mk1 (shut_bool Try.underlying4 _), (trodAll_cons_mk (Below.trod laidOut (by kernel_rfl) (of_decide_eq_true (by kernel_rfl)) k0 bel lt0) (trodAll_cons_mk (Below.trod laidOut (by kernel_rfl) (of_decide_eq_true (by kernel_rfl)) k1 bel lt1) (trodAll_cons_mk (Below.trod laidOut (by kernel_rfl) (of_decide_eq_true (by kernel_rfl)) k2 bel lt2) trodAll_mk0))), rfl, bel.frame _, fun h => by cases h⟩

theorem rankOrders_holds : Rows.RankOrdersSaid :=
  OpenClaim.holds_of_wide 3 Try.f3 rfl rfl rfl rfl rfl rfl rfl ⟨rfl, rfl, rfl, rfl, rfl⟩ rfl rfl rfl rfl rfl (by kernel_rfl) Try.func3 (by kernel_rfl)
    (of_decide_eq_true (by kernel_rfl)) (by unfold Func.isWrapper; first | (rw [if_pos (by decide +kernel)]; kernel_rfl) | (rw [if_neg (by decide +kernel)]; exact ⟨rfl, rfl⟩))
    (fun os started H enc _ => rankOrders_lifted os started H enc)


end Go.Proofs.Ytjifjdmlgbbfdaa
