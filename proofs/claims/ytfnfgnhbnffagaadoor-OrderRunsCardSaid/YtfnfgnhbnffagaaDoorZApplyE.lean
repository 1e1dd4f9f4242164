/-
Apply, whatever it is given.
-/
import Derived.Test.YtfnfgnhbnffagaaDoorZApplyB
import Derived.Test.YtfnfgnhbnffagaaDoorZApplyD
namespace Go.Proofs.YtfnfgnhbnffagaaDoor
open Go.RowKit
set_option linter.unusedVariables false
set_option maxRecDepth 100000

set_option maxHeartbeats 2000000 in
theorem apply_bad (ep : Int) (A : Option Addr) (n cap : Nat) (ms : List Mb) (x : Chg) (w : World) (h : MS w A n ms) (hx : x.ok) (hbad : goodB ep ms = false ∨ x.kind < 1 ∨ 4 < x.kind ∨ ep = 1073741824) :
    Calls Tryd.prog 50 #[.agg #[.int .i64 ep, .slice A n cap], .agg x.arr] w (Applied ep 1 [] w) := by
  have hB := ((((Below.refl w.heap.size w).alloc (Nat.le_refl _) (.cells #[.int .i64 ep, .slice A n cap] 26)).alloc (by simp) (.cells x.arr 42)).alloc (by simp; omega) (.cells #[.int .i64 0, .slice none 0 0] 26))
  have H := Lib.hid (h.below hB)
  have I0 := Lib.hid (Ap.start w ep A n cap hx)
  obtain ⟨g, hg⟩ : ∃ g, goodB ep ms = g := ⟨_, rfl⟩
  have hb : g = false ∨ (g = true ∧ x.kind < 1) ∨ (g = true ∧ ¬ x.kind < 1 ∧ 4 < x.kind) ∨ (g = true ∧ ¬ x.kind < 1 ∧ ¬ 4 < x.kind ∧ (ep == 1073741824) = true) := by
    rw [hg] at hbad
    cases g with
    | false => exact .inl rfl
    | true =>
      by_cases c1 : x.kind < 1
      · exact .inr (.inl ⟨rfl, c1⟩)
      · by_cases c2 : 4 < x.kind
        · exact .inr (.inr (.inl ⟨rfl, c1, c2⟩))
        · rcases hbad with h | h | h | h
          · cases h
          · exact absurd h c1
          · exact absurd h c2
          · exact .inr (.inr (.inr ⟨rfl, c1, c2, by rw [beq_iff_eq]; exact h⟩))
  have HG := Lib.hid hg
  clear hbad h hg
  rcases hb with rfl | ⟨rfl, c1⟩ | ⟨rfl, c1, c2⟩ | ⟨rfl, c1, c2, c3⟩
  all_goals
    go_enter Tryd.func50, Tryd.ntmps50
    go_wp2_with fail
    refine (good_any ep A n cap ms _ H.out).mono ?_
    rw [HG.out]
    rintro e w1 ⟨rfl, hb1⟩
    obtain ⟨d0, d1, x0, x1, x2, xk, r0, r1, f0, f1, sz⟩ := I0.out.later hb1
    have hB1 := hB.trans (hb1.mono (by simp; omega))
    go_wp2_with fail
    refine bodyPost_ret (v := .tuple #[.agg #[.int .i64 0, .slice none 0 0], .int .i64 1]) (by rw [results_cell2 Tryd.results50]; simp [go_sem, *]) rfl ?_
    exact applied_not hB1 (by decide)

theorem good_bounds {ep : Int} {ms : List Mb} {n : Nat} (hn : ms.length = n) (h : goodB ep ms = true) : 0 ≤ ep ∧ ep ≤ 1073741824 ∧ n * 48 ≤ 140737488355328 := by
  unfold goodB at h; rw [Bool.and_eq_true, decide_eq_true_eq] at h; omega
theorem appE_bad {ep : Int} {ms : List Mb} {x : Chg} (h : ¬ (goodB ep ms = true ∧ 1 ≤ x.kind ∧ x.kind ≤ 4 ∧ ep ≠ 1073741824)) : appE ep ms x = 1 := by
  unfold appE; rw [if_neg h]
theorem apply_any (ep : Int) (A : Option Addr) (n cap : Nat) (ms : List Mb) (x : Chg) (w : World) (h : MS w A n ms) (hx : x.ok) :
    Calls Tryd.prog 50 #[.agg #[.int .i64 ep, .slice A n cap], .agg x.arr] w (Applied ep (appE ep ms x) (appR ep ms x) w) := by
  by_cases hc : goodB ep ms = true ∧ 1 ≤ x.kind ∧ x.kind ≤ 4 ∧ ep ≠ 1073741824
  · obtain ⟨hg, k1, k2, he⟩ := hc
    obtain ⟨e0, e1, hb⟩ := good_bounds h.len hg
    obtain ⟨bb, off, hAe, -, -⟩ := h.mem (n_pos h.len hg)
    have hA : A = none → n = 0 := fun e => by rw [hAe] at e; cases e
    have hs : ∀ a, A = some a → a.spot = none := fun a e => by rw [hAe] at e; cases e; rfl
    obtain ⟨kd, id, nw, key⟩ := x
    have : kd = 1 ∨ kd = 2 ∨ kd = 3 ∨ kd = 4 := by simp only at k1 k2; omega
    rcases this with rfl | rfl | rfl | rfl
    · exact apply_1 ep A n cap ms id nw key w h hx hg he hA hs hb e0 e1
    · exact apply_2 ep A n cap ms id nw key w h hx hg he hA hs hb e0 e1
    · exact apply_3 ep A n cap ms id nw key w h hx hg he hA hs hb e0 e1
    · exact apply_4 ep A n cap ms id nw key w h hx hg he hA hs hb e0 e1
  · have hE := appE_bad hc
    unfold appR
    rw [hE, if_neg (by decide)]
    refine apply_bad ep A n cap ms x w h hx ?_
    cases hg : goodB ep ms with
    | false => exact .inl rfl
    | true =>
      right
      by_cases c1 : x.kind < 1
      · exact .inl c1
      · by_cases c2 : 4 < x.kind
        · exact .inr (.inl c2)
        · refine .inr (.inr ?_)
          rcases Classical.em (ep = 1073741824) with h | h
          · exact h
          · exact absurd ⟨hg, by omega, by omega, h⟩ hc

end Go.Proofs.YtfnfgnhbnffagaaDoor
