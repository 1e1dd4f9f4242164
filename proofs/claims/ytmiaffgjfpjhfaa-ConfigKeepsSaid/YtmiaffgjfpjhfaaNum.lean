/-
How many members may be wrong, must vote, and are so many that one of them is right: the package's functions and the reference's.
-/
import Derived.Test.YtmiaffgjfpjhfaaMb
namespace Go.Proofs.Ytmiaffgjfpjhfaa
open Go.RowKit
set_option linter.unusedVariables false

def faultsN (n : Nat) : Nat := (n - 1) / 3
def quorumN (n : Nat) : Nat := (n + faultsN n) / 2 + 1

set_option maxHeartbeats 400000 in
theorem faults_any (ep : Int) (A : Option Addr) (n cap : Nat) (hn : n ≤ 140737488355328) (w : World) :
    Calls Try.prog 12 #[.agg #[.int .i64 ep, .slice A n cap]] w fun e w' => e = .returned (.int .i64 (faultsN n : Int)) ∧ Below w.heap.size w w' := by
  by_cases h : n = 0
  · subst h
    go_enter Try.func12, Try.ntmps12
    go_wp2_with fail
    go_ret
    exact ⟨rfl, (Below.refl _ _).alloc (Nat.le_refl _) _⟩
  · have h1 : (0 : Int) ≤ (n : Int) - 1 := by omega
    have e : ((n : Int) - 1) / 3 = (faultsN n : Int) := by unfold faultsN; omega
    have E := Lib.hid e
    clear e
    have h2 : ¬ ((n : Int) - 1 < 0) := by omega
    go_enter Try.func12, Try.ntmps12
    go_wp2_with fail
    go_ret
    exact ⟨by rw [← E.out]; rfl, (Below.refl _ _).alloc (Nat.le_refl _) _⟩

set_option maxHeartbeats 400000 in
theorem quorum_any (ep : Int) (A : Option Addr) (n cap : Nat) (hn : n ≤ 140737488355328) (w : World) :
    Calls Try.prog 10 #[.agg #[.int .i64 ep, .slice A n cap]] w fun e w' => e = .returned (.int .i64 (quorumN n : Int)) ∧ Below w.heap.size w w' := by
  have hf : faultsN n ≤ n := by unfold faultsN; omega
  have e : ((n : Int) + (faultsN n : Int)) / 2 + 1 = (quorumN n : Int) := by unfold quorumN; omega
  have E := Lib.hid e
  clear e
  go_enter Try.func10, Try.ntmps10
  go_wp2_with fail
  refine wp_region_later_lit (by kernel_rfl) (by kernel_rfl) ?_
  repeat (go_big_quiet_step ((go_at_call 12; exact Later.call (faults_any _ _ _ _ hn _))))
  refine wpQuiet_nil ?_
  intro _ hx
  obtain ⟨⟨w1, hb⟩, rfl⟩ := hx
  go_wp2_with fail
  go_ret
  exact ⟨by rw [← E.out]; rfl, ((Below.refl _ _).alloc (Nat.le_refl _) _).trans (hb.mono (by simp))⟩

set_option maxHeartbeats 400000 in
theorem weak_any (ep : Int) (A : Option Addr) (n cap : Nat) (hn : n ≤ 140737488355328) (w : World) :
    Calls Try.prog 11 #[.agg #[.int .i64 ep, .slice A n cap]] w fun e w' => e = .returned (.int .i64 ((faultsN n : Int) + 1)) ∧ Below w.heap.size w w' := by
  have hf : faultsN n ≤ n := by unfold faultsN; omega
  go_enter Try.func11, Try.ntmps11
  go_wp2_with fail
  refine (faults_any _ _ _ _ hn _).mono ?_
  rintro e w1 ⟨rfl, hb⟩
  go_wp2_with fail
  go_ret
  exact ⟨rfl, ((Below.refl _ _).alloc (Nat.le_refl _) _).trans (hb.mono (by simp))⟩

set_option maxHeartbeats 400000 in
theorem refFaults_any (n : Nat) (hn : n ≤ 140737488355328) (w : World) :
    Calls Try.prog 19 #[.int .i64 (n : Int)] w fun e w' => e = .returned (.int .i64 (faultsN n : Int)) ∧ w = w' := by
  have hf : faultsN n ≤ n := by unfold faultsN; omega
  go_enter Try.func19, Try.ntmps19
  go_wp2
  go_loop [3] (fun t => ∃ k : Nat, k ≤ faultsN n ∧ t = .int .i64 k) (fun t => faultsN n - (intOf t).toNat)
  case atStart => exact ⟨0, by omega, rfl⟩
  case round =>
    obtain ⟨k, hk, rfl⟩ := hrel
    by_cases hlt : k < faultsN n
    · have h1 : 3 * ((k : Int) + 1) + 1 ≤ (n : Int) := by unfold faultsN at hlt; omega
      go_wp2
      go_round
      case rel => exact ⟨k + 1, by omega, by go_num⟩
      case measure => simp [intOf]; omega
    · have h1 : ¬ 3 * ((k : Int) + 1) + 1 ≤ (n : Int) := by unfold faultsN at *; omega
      obtain rfl : k = faultsN n := by omega
      go_wp2
      go_ret
      exact ⟨rfl, rfl⟩

set_option maxHeartbeats 400000 in
theorem refQuorum_any (n : Nat) (hn : n ≤ 140737488355328) (w : World) :
    Calls Try.prog 20 #[.int .i64 (n : Int)] w fun e w' => e = .returned (.int .i64 (quorumN n : Int)) ∧ w = w' := by
  have hf : faultsN n ≤ n := by unfold faultsN; omega
  have hq : quorumN n ≤ n + 1 := by unfold quorumN; omega
  go_enter Try.func20, Try.ntmps20
  go_wp2
  go_loop [3] (fun t => ∃ k : Nat, k ≤ quorumN n ∧ t = .int .i64 k) (fun t => quorumN n - (intOf t).toNat)
  case atStart => exact ⟨0, by omega, rfl⟩
  case round =>
    obtain ⟨k, hk, rfl⟩ := hrel
    by_cases hlt : k < quorumN n
    · have h1 : 2 * (k : Int) ≤ (n : Int) + (faultsN n : Int) := by unfold quorumN at hlt; omega
      go_wp2_with (go_at_call 19; refine (refFaults_any _ hn _).mono ?_; rintro e w' ⟨rfl, rfl⟩)
      go_round
      case rel => exact ⟨k + 1, by omega, by go_num⟩
      case measure => simp [intOf]; omega
    · have h1 : ¬ 2 * (k : Int) ≤ (n : Int) + (faultsN n : Int) := by unfold quorumN at hlt hk; omega
      obtain rfl : k = quorumN n := by omega
      go_wp2_with (go_at_call 19; refine (refFaults_any _ hn _).mono ?_; rintro e w' ⟨rfl, rfl⟩)
      go_ret
      exact ⟨rfl, rfl⟩

end Go.Proofs.Ytmiaffgjfpjhfaa
