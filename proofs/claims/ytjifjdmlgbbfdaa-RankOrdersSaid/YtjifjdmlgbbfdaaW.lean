/-
The functions of the package rank and of its reference, each walked once: what they answer of places (complex numbers whose parts are whole numbers in range) and of what is no place.
-/
import Derived.Test.YtjifjdmlgbbfdaaRows
import Derived.Test.YtjifjdmlgbbfdaaFl
import Derived.WalkKit
import Derived.ProofKit
import Derived.Lib.Hide
import Derived.LoopTactic
import Derived.WalkLawsBesides
import Derived.Laws.Cover3
namespace Go.Proofs.Ytjifjdmlgbbfdaa
open Go.RowKit
set_option linter.unusedVariables false

abbrev fo (x : Nat) (n : Int) : Option Ordering := FloatKind.f64.format.order x (floatOfInt .f64 n)

/-- a place: height and round -/
def Pl (a b : Nat) (h n : Int) : Prop := Is a 1 1024 h ∧ Is b 0 1024 n
def NoPl (a b : Nat) : Prop := ∀ h n, ¬ Pl a b h n
theorem pl_or (a b : Nat) : (∃ h n, Pl a b h n) ∨ NoPl a b := by
  by_cases h : ∃ h n, Pl a b h n
  · exact .inl h
  · exact .inr fun x y hc => h ⟨x, y, hc⟩
theorem is_or (a : Nat) (lo hi : Int) : (∃ n, Is a lo hi n) ∨ ∀ n, ¬ Is a lo hi n := by
  by_cases h : ∃ n, Is a lo hi n
  · exact .inl h
  · exact .inr fun x hc => h ⟨x, hc⟩

set_option maxHeartbeats 400000 in
theorem whole_yes {x : Nat} {lo hi n : Int} (l0 : 0 ≤ lo) (l1 : hi < 2 ^ 53) (h : Is x lo hi n) (w : World) :
    Calls Try.prog 20 #[.float .f64 x, .int .i64 lo, .int .i64 hi] w fun e w' => e = .returned (.bool true) ∧ w = w' := by
  obtain ⟨h1, h2, h3, h4⟩ := yes l0 l1 h
  have g1 : (fo x lo == some .gt || fo x lo == some .eq) = true := h1
  have g2 : (fo x hi == some .lt || fo x hi == some .eq) = true := h2
  have g3 := fun w => run_convert_float_int (P := Try.prog) w 22 3 .f64 .i64 x n (by kernel_rfl) (by kernel_rfl) h3
  have g4 : (fo x n == some .eq) = true := by rw [beq_iff_eq]; exact h4
  clear h1 h2 h3 h4 h l0 l1
  unfold fo at g1 g2 g4
  go_enter Try.func20, Try.ntmps20
  go_wp2
  go_ret
  exact ⟨rfl, rfl⟩

set_option maxHeartbeats 400000 in
theorem whole_no {x : Nat} {lo hi : Int} (l0 : 0 ≤ lo) (l2 : lo ≤ hi) (l1 : hi < 2 ^ 53) (h : ∀ n, ¬ Is x lo hi n) (w : World) :
    Calls Try.prog 20 #[.float .f64 x, .int .i64 lo, .int .i64 hi] w fun e w' => e = .returned (.bool false) ∧ w = w' := by
  rcases no l0 l2 l1 h with h1 | ⟨h1, h2⟩ | ⟨h1, h2, n, h3, h4⟩
  · have g1 : (fo x lo == some .gt || fo x lo == some .eq) = false := h1
    clear h1 h l0 l1 l2
    unfold fo at g1
    go_enter Try.func20, Try.ntmps20
    go_wp2
    go_ret
    exact ⟨rfl, rfl⟩
  · have g1 : (fo x lo == some .gt || fo x lo == some .eq) = true := h1
    have g2 : (fo x hi == some .lt || fo x hi == some .eq) = false := h2
    clear h1 h2 h l0 l1 l2
    unfold fo at g1 g2
    go_enter Try.func20, Try.ntmps20
    go_wp2
    go_ret
    exact ⟨rfl, rfl⟩
  · have g1 : (fo x lo == some .gt || fo x lo == some .eq) = true := h1
    have g2 : (fo x hi == some .lt || fo x hi == some .eq) = true := h2
    have g3 := fun w => run_convert_float_int (P := Try.prog) w 22 3 .f64 .i64 x n (by kernel_rfl) (by kernel_rfl) h3
    have g4 : (fo x n == some .eq) = false := h4
    clear h1 h2 h3 h4 h l0 l1 l2
    unfold fo at g1 g2 g4
    go_enter Try.func20, Try.ntmps20
    go_wp2
    go_ret
    exact ⟨rfl, rfl⟩

set_option maxHeartbeats 400000 in
theorem part_yes {x : Nat} {lo hi n : Int} (l0 : 0 ≤ lo) (l1 : hi ≤ 1024) (h : Is x lo hi n) (w : World) :
    Calls Try.prog 21 #[.float .f64 x, .int .i64 lo, .int .i64 hi] w fun e w' => e = .returned (.tuple #[.int .i64 n, .bool true]) ∧ w = w' := by
  obtain ⟨h1, h2, hv⟩ := h
  have g1 : ∀ k : Int, lo ≤ k → k < n → (fo x k == some .eq) = false := by
    intro k a b
    rw [beq_eq_false_iff_ne]
    intro hc
    have hc' := (eq_iff (by omega) (by omega)).1 hc
    have := hv.symm.trans hc'
    rw [Option.some.injEq] at this
    have := mulU_inj.1 this
    omega
  have g2 : (fo x n == some .eq) = true := by rw [beq_iff_eq]; exact (eq_iff (by omega) (by omega)).2 hv
  clear hv
  have G1 := Lib.hid g1
  have G2 := Lib.hid g2
  clear g1 g2
  go_enter Try.func21, Try.ntmps21
  go_wp2
  go_loop [8] (fun t => ∃ k : Int, lo ≤ k ∧ k ≤ n ∧ t = .int .i64 k) (fun t => (n - intOf t).toNat)
  case atStart => exact ⟨lo, by omega, by omega, rfl⟩
  case round =>
    obtain ⟨k, hk1, hk2, rfl⟩ := hrel
    by_cases hk : k < n
    · have g := G1.out k hk1 hk
      unfold fo at g
      go_wp2
      go_round
      case rel => exact ⟨k + 1, by omega, by omega, rfl⟩
      case measure => simp [intOf]; omega
    · obtain rfl : k = n := by omega
      have g := G2.out
      unfold fo at g
      go_wp2
      go_ret2
      exact ⟨rfl, rfl⟩

set_option maxHeartbeats 400000 in
theorem part_no {x : Nat} {lo hi : Int} (l0 : 0 ≤ lo) (l2 : lo ≤ hi) (l1 : hi ≤ 1024) (h : ∀ n, ¬ Is x lo hi n) (w : World) :
    Calls Try.prog 21 #[.float .f64 x, .int .i64 lo, .int .i64 hi] w fun e w' => e = .returned (.tuple #[.int .i64 0, .bool false]) ∧ w = w' := by
  have g1 : ∀ k : Int, lo ≤ k → k ≤ hi → (fo x k == some .eq) = false := by
    intro k a b
    rw [beq_eq_false_iff_ne]
    intro hc
    exact h k ⟨a, b, (eq_iff (by omega) (by omega)).1 hc⟩
  have G1 := Lib.hid g1
  clear g1 h
  go_enter Try.func21, Try.ntmps21
  go_wp2
  go_loop [8] (fun t => ∃ k : Int, lo ≤ k ∧ k ≤ hi + 1 ∧ t = .int .i64 k) (fun t => (hi + 1 - intOf t).toNat)
  case atStart => exact ⟨lo, by omega, by omega, rfl⟩
  case round =>
    obtain ⟨k, hk1, hk2, rfl⟩ := hrel
    by_cases hk : k ≤ hi
    · have g := G1.out k hk1 hk
      unfold fo at g
      go_wp2
      go_round
      case rel => exact ⟨k + 1, by omega, by omega, rfl⟩
      case measure => simp [intOf]; omega
    · go_wp2
      go_ret2
      exact ⟨rfl, rfl⟩

set_option maxHeartbeats 400000 in
theorem good_yes {a b : Nat} {h n : Int} (p : Pl a b h n) (w : World) :
    Calls Try.prog 10 #[.complex .f64 a b] w fun e w' => e = .returned (.bool true) ∧ w = w' := by
  obtain ⟨pa, pb⟩ := p
  go_enter Try.func10, Try.ntmps10
  go_wp2_with fail
  refine (whole_yes (by omega) (by omega) pa _).mono ?_
  rintro e w' ⟨rfl, rfl⟩
  go_wp2_with fail
  refine (whole_yes (by omega) (by omega) pb _).mono ?_
  rintro e w' ⟨rfl, rfl⟩
  go_wp2_with fail
  go_ret
  exact ⟨rfl, rfl⟩

set_option maxHeartbeats 400000 in
theorem good_no {a b : Nat} (p : NoPl a b) (w : World) :
    Calls Try.prog 10 #[.complex .f64 a b] w fun e w' => e = .returned (.bool false) ∧ w = w' := by
  rcases is_or a 1 1024 with ⟨h, pa⟩ | pa
  · have pb : ∀ n, ¬ Is b 0 1024 n := fun n hb => p h n ⟨pa, hb⟩
    have PB := Lib.hid pb
    clear p pb
    go_enter Try.func10, Try.ntmps10
    go_wp2_with fail
    refine (whole_yes (by omega) (by omega) pa _).mono ?_
    rintro e w' ⟨rfl, rfl⟩
    go_wp2_with fail
    refine (whole_no (by omega) (by omega) (by omega) PB.out _).mono ?_
    rintro e w' ⟨rfl, rfl⟩
    go_wp2_with fail
    go_ret
    exact ⟨rfl, rfl⟩
  · have PA := Lib.hid pa
    clear p pa
    go_enter Try.func10, Try.ntmps10
    go_wp2_with fail
    refine (whole_no (by omega) (by omega) (by omega) PA.out _).mono ?_
    rintro e w' ⟨rfl, rfl⟩
    go_wp2_with fail
    go_ret
    exact ⟨rfl, rfl⟩

set_option maxHeartbeats 400000 in
theorem height_yes {a b : Nat} {h n : Int} (p : Pl a b h n) (w : World) :
    Calls Try.prog 16 #[.complex .f64 a b] w fun e w' => e = .returned (.int .i64 h) ∧ w = w' := by
  obtain ⟨_, _, h3, _⟩ := yes (by omega) (by omega) p.1
  have g3 := fun w => run_convert_float_int (P := Try.prog) w 22 3 .f64 .i64 a h (by kernel_rfl) (by kernel_rfl) h3
  clear h3
  go_enter Try.func16, Try.ntmps16
  go_wp2_with fail
  refine (good_yes p _).mono ?_
  rintro e w' ⟨rfl, rfl⟩
  go_wp2_with fail
  go_ret
  exact ⟨rfl, rfl⟩

set_option maxHeartbeats 400000 in
theorem height_no {a b : Nat} (p : NoPl a b) (w : World) :
    Calls Try.prog 16 #[.complex .f64 a b] w fun e w' => e = .returned (.int .i64 0) ∧ w = w' := by
  have P := Lib.hid p
  clear p
  go_enter Try.func16, Try.ntmps16
  go_wp2_with fail
  refine (good_no P.out _).mono ?_
  rintro e w' ⟨rfl, rfl⟩
  go_wp2_with fail
  go_ret
  exact ⟨rfl, rfl⟩

set_option maxHeartbeats 400000 in
theorem round_yes {a b : Nat} {h n : Int} (p : Pl a b h n) (w : World) :
    Calls Try.prog 17 #[.complex .f64 a b] w fun e w' => e = .returned (.int .i64 n) ∧ w = w' := by
  obtain ⟨_, _, h3, _⟩ := yes (by omega) (by omega) p.2
  have g3 := fun w => run_convert_float_int (P := Try.prog) w 22 3 .f64 .i64 b n (by kernel_rfl) (by kernel_rfl) h3
  clear h3
  go_enter Try.func17, Try.ntmps17
  go_wp2_with fail
  refine (good_yes p _).mono ?_
  rintro e w' ⟨rfl, rfl⟩
  go_wp2_with fail
  go_ret
  exact ⟨rfl, rfl⟩

set_option maxHeartbeats 400000 in
theorem round_no {a b : Nat} (p : NoPl a b) (w : World) :
    Calls Try.prog 17 #[.complex .f64 a b] w fun e w' => e = .returned (.int .i64 0) ∧ w = w' := by
  have P := Lib.hid p
  clear p
  go_enter Try.func17, Try.ntmps17
  go_wp2_with fail
  refine (good_no P.out _).mono ?_
  rintro e w' ⟨rfl, rfl⟩
  go_wp2_with fail
  go_ret
  exact ⟨rfl, rfl⟩

set_option maxHeartbeats 400000 in
theorem at_any (h n : Int) (w : World) :
    Calls Try.prog 13 #[.int .i64 h, .int .i64 n] w fun e w' => e = .returned (.complex .f64 (F h) (F n)) ∧ w = w' := by
  go_enter Try.func13, Try.ntmps13
  go_wp2_with fail
  go_ret
  exact ⟨rfl, rfl⟩

set_option maxHeartbeats 400000 in
theorem next_any {a b z y : Nat} (h1 : Ieee.double.add a 0 = some z) (h2 : Ieee.double.add b 4607182418800017408 = some y) (w : World) :
    Calls Try.prog 11 #[.complex .f64 a b] w fun e w' => e = .returned (.complex .f64 z y) ∧ w = w' := by
  have g : cSumBits .add .f64 a b 0 4607182418800017408 = some (z, y) := by
    have e1 : floatBits .add .f64 a 0 = some z := h1
    have e2 : floatBits .add .f64 b 4607182418800017408 = some y := h2
    unfold cSumBits
    rw [e1, e2]
    rfl
  have g' := fun w => run_complex_sum (P := Try.prog) w .add (.inl rfl) 25 .f64 a b 0 4607182418800017408 z y g
  clear g h1 h2
  go_enter Try.func11, Try.ntmps11
  go_wp2_with fail
  go_ret
  exact ⟨rfl, rfl⟩

set_option maxHeartbeats 400000 in
theorem rise_any {a z : Nat} (b : Nat) (h1 : Ieee.double.add a 4607182418800017408 = some z) (w : World) :
    Calls Try.prog 12 #[.complex .f64 a b] w fun e w' => e = .returned (.complex .f64 z 0) ∧ w = w' := by
  have e1 : floatBits .add .f64 a 4607182418800017408 = some z := h1
  have g' := fun w => run_float_arith (P := Try.prog) w .add 22 .f64 a 4607182418800017408 z e1
  clear e1 h1
  go_enter Try.func12, Try.ntmps12
  go_wp2_with fail
  go_ret
  exact ⟨rfl, rfl⟩


/-- one place is ahead of another one -/
def lessB (h n k m : Int) : Bool := decide (h < k ∨ (h = k ∧ n < m))

set_option maxHeartbeats 400000 in
theorem less_yes {a b c d : Nat} {h n k m : Int} (p : Pl a b h n) (q : Pl c d k m) (w : World) :
    Calls Try.prog 8 #[.complex .f64 a b, .complex .f64 c d] w fun e w' => e = .returned (.bool (lessB h n k m)) ∧ w = w' := by
  have va : FloatKind.f64.format.order a c = some (compare h k) := by
    have := ord_of_val p.1.2.2 q.1.2.2
    have hp := @mulU_lt h k
    have hq := @mulU_lt k h
    refine this.trans ?_
    rcases Int.lt_trichotomy h k with e | e | e
    · rw [cmp_lt e, cmp_lt (hp.2 e)]
    · rw [e, cmp_eq, cmp_eq]
    · rw [cmp_gt e, cmp_gt (hq.2 e)]
  have vb : FloatKind.f64.format.order b d = some (compare n m) := by
    have := ord_of_val p.2.2.2 q.2.2.2
    have hp := @mulU_lt n m
    have hq := @mulU_lt m n
    refine this.trans ?_
    rcases Int.lt_trichotomy n m with e | e | e
    · rw [cmp_lt e, cmp_lt (hp.2 e)]
    · rw [e, cmp_eq, cmp_eq]
    · rw [cmp_gt e, cmp_gt (hq.2 e)]
  rcases Int.lt_trichotomy h k with e | e | e
  · rw [cmp_lt e] at va
    have hl : lessB h n k m = true := by unfold lessB; rw [decide_eq_true_eq]; exact .inl e
    have HL := Lib.hid hl
    have e1 : (FloatKind.f64.format.order a c == some .lt) = true := by rw [va]; decide
    clear va vb hl
    go_enter Try.func8, Try.ntmps8
    go_wp2_with fail
    refine (good_yes p _).mono ?_
    rintro e w' ⟨rfl, rfl⟩
    go_wp2_with fail
    refine (good_yes q _).mono ?_
    rintro e w' ⟨rfl, rfl⟩
    go_wp2_with fail
    go_ret
    exact ⟨by rw [HL.out]; rfl, rfl⟩
  · rw [e, cmp_eq] at va
    have hl : lessB h n k m = (compare n m == .lt) := by
      unfold lessB
      rw [Bool.eq_iff_iff, decide_eq_true_eq, beq_iff_eq, cmp_lt_iff]
      omega
    have HL := Lib.hid hl
    have e1 : (FloatKind.f64.format.order a c == some .lt) = false := by rw [va]; decide
    have e2 : (FloatKind.f64.format.order a c == some .eq) = true := by rw [va]; decide
    have VB := Lib.hid vb
    clear va vb hl e
    go_enter Try.func8, Try.ntmps8
    go_wp2_with fail
    refine (good_yes p _).mono ?_
    rintro e w' ⟨rfl, rfl⟩
    go_wp2_with fail
    refine (good_yes q _).mono ?_
    rintro e w' ⟨rfl, rfl⟩
    go_wp2_with fail
    go_ret
    exact ⟨by rw [HL.out, VB.out]; simp, rfl⟩
  · rw [cmp_gt e] at va
    have hl : lessB h n k m = false := by unfold lessB; rw [decide_eq_false_iff_not]; omega
    have HL := Lib.hid hl
    have e1 : (FloatKind.f64.format.order a c == some .lt) = false := by rw [va]; decide
    have e2 : (FloatKind.f64.format.order a c == some .eq) = false := by rw [va]; decide
    clear va vb hl
    go_enter Try.func8, Try.ntmps8
    go_wp2_with fail
    refine (good_yes p _).mono ?_
    rintro e w' ⟨rfl, rfl⟩
    go_wp2_with fail
    refine (good_yes q _).mono ?_
    rintro e w' ⟨rfl, rfl⟩
    go_wp2_with fail
    go_ret
    exact ⟨by rw [HL.out]; rfl, rfl⟩

set_option maxHeartbeats 400000 in
theorem less_no {a b c d : Nat} (p : NoPl a b ∨ NoPl c d) (w : World) :
    Calls Try.prog 8 #[.complex .f64 a b, .complex .f64 c d] w fun e w' => e = .returned (.bool false) ∧ w = w' := by
  rcases pl_or a b with ⟨h, n, pa⟩ | pa
  · have pb : NoPl c d := by
      rcases p with p | p
      · exact absurd pa (p h n)
      · exact p
    have P := Lib.hid pb
    clear p pb
    go_enter Try.func8, Try.ntmps8
    go_wp2_with fail
    refine (good_yes pa _).mono ?_
    rintro e w' ⟨rfl, rfl⟩
    go_wp2_with fail
    refine (good_no P.out _).mono ?_
    rintro e w' ⟨rfl, rfl⟩
    go_wp2_with fail
    go_ret
    exact ⟨rfl, rfl⟩
  · have P := Lib.hid pa
    clear p pa
    go_enter Try.func8, Try.ntmps8
    go_wp2_with fail
    refine (good_no P.out _).mono ?_
    rintro e w' ⟨rfl, rfl⟩
    go_wp2_with fail
    go_ret
    exact ⟨rfl, rfl⟩

set_option maxHeartbeats 400000 in
theorem parts_yes {a b : Nat} {h n : Int} (p : Pl a b h n) (w : World) :
    Calls Try.prog 15 #[.complex .f64 a b] w fun e w' => e = .returned (.tuple #[.int .i64 h, .int .i64 n, .bool true]) ∧ w = w' := by
  obtain ⟨pa, pb⟩ := p
  go_enter Try.func15, Try.ntmps15
  go_wp2_with fail
  refine (part_yes (by omega) (by omega) pa _).mono ?_
  rintro e w' ⟨rfl, rfl⟩
  go_wp2_with fail
  refine (part_yes (by omega) (by omega) pb _).mono ?_
  rintro e w' ⟨rfl, rfl⟩
  go_wp2_with fail
  go_ret3
  exact ⟨rfl, rfl⟩

set_option maxHeartbeats 400000 in
theorem parts_no {a b : Nat} (p : NoPl a b) (w : World) :
    Calls Try.prog 15 #[.complex .f64 a b] w fun e w' => e = .returned (.tuple #[.int .i64 0, .int .i64 0, .bool false]) ∧ w = w' := by
  rcases is_or a 1 1024 with ⟨h, pa⟩ | pa
  · have pb : ∀ n, ¬ Is b 0 1024 n := fun n hb => p h n ⟨pa, hb⟩
    have PB := Lib.hid pb
    clear p pb
    go_enter Try.func15, Try.ntmps15
    go_wp2_with fail
    refine (part_yes (by omega) (by omega) pa _).mono ?_
    rintro e w' ⟨rfl, rfl⟩
    go_wp2_with fail
    refine (part_no (by omega) (by omega) (by omega) PB.out _).mono ?_
    rintro e w' ⟨rfl, rfl⟩
    go_wp2_with fail
    go_ret3
    exact ⟨rfl, rfl⟩
  · have PA := Lib.hid pa
    clear p pa
    rcases is_or b 0 1024 with ⟨n, pb⟩ | pb
    · go_enter Try.func15, Try.ntmps15
      go_wp2_with fail
      refine (part_no (by omega) (by omega) (by omega) PA.out _).mono ?_
      rintro e w' ⟨rfl, rfl⟩
      go_wp2_with fail
      refine (part_yes (by omega) (by omega) pb _).mono ?_
      rintro e w' ⟨rfl, rfl⟩
      go_wp2_with fail
      go_ret3
      exact ⟨rfl, rfl⟩
    · have PB := Lib.hid pb
      clear pb
      go_enter Try.func15, Try.ntmps15
      go_wp2_with fail
      refine (part_no (by omega) (by omega) (by omega) PA.out _).mono ?_
      rintro e w' ⟨rfl, rfl⟩
      go_wp2_with fail
      refine (part_no (by omega) (by omega) (by omega) PB.out _).mono ?_
      rintro e w' ⟨rfl, rfl⟩
      go_wp2_with fail
      go_ret3
      exact ⟨rfl, rfl⟩

set_option maxHeartbeats 400000 in
theorem refless_yes {a b c d : Nat} {h n k m : Int} (p : Pl a b h n) (q : Pl c d k m) (w : World) :
    Calls Try.prog 9 #[.complex .f64 a b, .complex .f64 c d] w fun e w' => e = .returned (.bool (lessB h n k m)) ∧ w = w' := by
  by_cases e : h = k
  · have hl : lessB h n k m = decide (n < m) := by unfold lessB; congr 1; apply propext; omega
    have HL := Lib.hid hl
    have e1 : (h != k) = false := by simp [e]
    clear hl e
    go_enter Try.func9, Try.ntmps9
    go_wp2_with fail
    refine (parts_yes p _).mono ?_
    rintro e w' ⟨rfl, rfl⟩
    go_wp2_with fail
    refine (parts_yes q _).mono ?_
    rintro e w' ⟨rfl, rfl⟩
    go_wp2_with fail
    go_ret
    exact ⟨by rw [HL.out]; rfl, rfl⟩
  · have hl : lessB h n k m = decide (h < k) := by unfold lessB; congr 1; apply propext; omega
    have HL := Lib.hid hl
    have e1 : (h != k) = true := by rw [bne_iff_ne]; exact e
    clear hl e
    go_enter Try.func9, Try.ntmps9
    go_wp2_with fail
    refine (parts_yes p _).mono ?_
    rintro e w' ⟨rfl, rfl⟩
    go_wp2_with fail
    refine (parts_yes q _).mono ?_
    rintro e w' ⟨rfl, rfl⟩
    go_wp2_with fail
    go_ret
    exact ⟨by rw [HL.out]; rfl, rfl⟩

set_option maxHeartbeats 400000 in
theorem refless_no {a b c d : Nat} (p : NoPl a b ∨ NoPl c d) (w : World) :
    Calls Try.prog 9 #[.complex .f64 a b, .complex .f64 c d] w fun e w' => e = .returned (.bool false) ∧ w = w' := by
  rcases pl_or a b with ⟨h, n, pa⟩ | pa
  · have pb : NoPl c d := by
      rcases p with p | p
      · exact absurd pa (p h n)
      · exact p
    have P := Lib.hid pb
    clear p pb
    go_enter Try.func9, Try.ntmps9
    go_wp2_with fail
    refine (parts_yes pa _).mono ?_
    rintro e w' ⟨rfl, rfl⟩
    go_wp2_with fail
    refine (parts_no P.out _).mono ?_
    rintro e w' ⟨rfl, rfl⟩
    go_wp2_with fail
    go_ret
    exact ⟨rfl, rfl⟩
  · have P := Lib.hid pa
    clear p pa
    rcases pl_or c d with ⟨h, n, pc⟩ | pc
    · go_enter Try.func9, Try.ntmps9
      go_wp2_with fail
      refine (parts_no P.out _).mono ?_
      rintro e w' ⟨rfl, rfl⟩
      go_wp2_with fail
      refine (parts_yes pc _).mono ?_
      rintro e w' ⟨rfl, rfl⟩
      go_wp2_with fail
      go_ret
      exact ⟨rfl, rfl⟩
    · have Q := Lib.hid pc
      clear pc
      go_enter Try.func9, Try.ntmps9
      go_wp2_with fail
      refine (parts_no P.out _).mono ?_
      rintro e w' ⟨rfl, rfl⟩
      go_wp2_with fail
      refine (parts_no Q.out _).mono ?_
      rintro e w' ⟨rfl, rfl⟩
      go_wp2_with fail
      go_ret
      exact ⟨rfl, rfl⟩

set_option maxHeartbeats 400000 in
theorem leader_few {n : Int} (h : n < 1) (a b : Nat) (w : World) :
    Calls Try.prog 18 #[.int .i64 n, .complex .f64 a b] w fun e w' => e = .returned (.int .i64 0) ∧ w = w' := by
  go_enter Try.func18, Try.ntmps18
  go_wp2_with fail
  go_ret
  exact ⟨rfl, rfl⟩

set_option maxHeartbeats 400000 in
theorem leader_no {n : Int} (h : 1 ≤ n) {a b : Nat} (p : NoPl a b) (w : World) :
    Calls Try.prog 18 #[.int .i64 n, .complex .f64 a b] w fun e w' => e = .returned (.int .i64 0) ∧ w = w' := by
  have P := Lib.hid p
  clear p
  go_enter Try.func18, Try.ntmps18
  go_wp2_with fail
  refine (good_no P.out _).mono ?_
  rintro e w' ⟨rfl, rfl⟩
  go_wp2_with fail
  go_ret
  exact ⟨rfl, rfl⟩

set_option maxHeartbeats 400000 in
theorem leader_yes {n : Int} (hn : 1 ≤ n) {a b : Nat} {h r : Int} (p : Pl a b h r) (w : World) :
    Calls Try.prog 18 #[.int .i64 n, .complex .f64 a b] w fun e w' => e = .returned (.int .i64 ((h + r) % n)) ∧ w = w' := by
  obtain ⟨z, hz, hv⟩ := add_whole p.1.2.2 p.2.2.2 (by have := p.1.1; have := p.2.1; omega) (by have := p.1.2.1; have := p.2.2.1; omega)
  have b1 : 0 ≤ h + r := by have := p.1.1; have := p.2.1; omega
  have b2 : h + r ≤ 2048 := by have := p.1.2.1; have := p.2.2.1; omega
  obtain ⟨s, hs⟩ : ∃ s, h + r = s := ⟨_, rfl⟩
  rw [hs] at hv b1 b2 ⊢
  obtain ⟨_, _, h3, _⟩ := yes (x := z) (lo := 0) (hi := 2048) (n := s) (by omega) (by omega) ⟨b1, b2, hv⟩
  have e1 : floatBits .add .f64 a b = some z := hz
  have g1 := fun w => run_float_arith (P := Try.prog) w .add 22 .f64 a b z e1
  have g3 := fun w => run_convert_float_int (P := Try.prog) w 22 3 .f64 .i64 z s (by kernel_rfl) (by kernel_rfl) h3
  clear e1 hz hv h3 hs
  go_enter Try.func18, Try.ntmps18
  go_wp2_with fail
  refine (good_yes p _).mono ?_
  rintro e w' ⟨rfl, rfl⟩
  go_wp2_with fail
  go_ret
  exact ⟨rfl, rfl⟩


/-- a base, held between 1 and 2^20 -/
def clampI (base : Int) : Int := if base < 1 then 1 else if 1048576 < base then 1048576 else base
/-- for how long a round is waited for -/
def pat (base n : Int) : Int := clampI base * 2 ^ (if 10 < n then 10 else n).toNat
theorem clamp_bounds (base : Int) : 1 ≤ clampI base ∧ clampI base ≤ 1048576 := by
  unfold clampI; split
  · omega
  · split <;> omega
theorem pow_bounds {n : Int} (h : n ≤ 10) : (1 : Int) ≤ 2 ^ n.toNat ∧ (2 : Int) ^ n.toNat ≤ 1024 := by
  have hk : n.toNat ≤ 10 := by omega
  have h1 : (2 : Nat) ^ n.toNat ≤ 2 ^ 10 := Nat.pow_le_pow_right (by decide) hk
  have h2 : 0 < (2 : Nat) ^ n.toNat := Nat.two_pow_pos _
  have e : ((2 ^ n.toNat : Nat) : Int) = 2 ^ n.toNat := by simp
  omega
theorem wrap_pat {c : Int} {n : Int} (h : n ≤ 10) (h1 : 1 ≤ c) (h2 : c ≤ 1048576) : wrap64 (c * 2 ^ n.toNat) = c * 2 ^ n.toNat := by
  obtain ⟨p1, p2⟩ := pow_bounds h
  obtain ⟨q, hq⟩ : ∃ q : Int, 2 ^ n.toNat = q := ⟨_, rfl⟩
  rw [hq] at p1 p2 ⊢
  have a1 : 0 ≤ c * q := Int.mul_nonneg (by omega) (by omega)
  have a2 : c * q ≤ 1048576 * 1024 := Int.mul_le_mul h2 p2 (by omega) (by omega)
  unfold wrap64
  omega

set_option maxHeartbeats 400000 in
theorem patience_of (base : Int) {a b : Nat} {n : Int} (n0 : 0 ≤ n) (n1 : n ≤ 1024) (hr : ∀ w, Calls Try.prog 17 #[.complex .f64 a b] w fun e w' => e = .returned (.int .i64 n) ∧ w = w') (w : World) :
    Calls Try.prog 14 #[.int .i64 base, .complex .f64 a b] w fun e w' => e = .returned (.int .i64 (pat base n)) ∧ w = w' := by
  have HR := Lib.hid hr
  clear hr
  by_cases b1 : base < 1
  · have hm : ¬ 1 ≤ base := by omega
    by_cases hn : 10 < n
    · have hp : pat base n = 1024 := by unfold pat clampI; rw [if_pos b1, if_pos hn]; decide
      have HP := Lib.hid hp
      clear hp
      go_enter Try.func14, Try.ntmps14
      go_wp2_with fail
      refine (HR.out _).mono ?_
      rintro e w' ⟨rfl, rfl⟩
      go_wp2_with fail
      go_ret
      exact ⟨by rw [HP.out]; rfl, rfl⟩
    · have hp : wrap64 (1 * 2 ^ n.toNat) = pat base n := by
        unfold pat clampI; rw [if_pos b1, if_neg hn]; exact wrap_pat (by omega) (by omega) (by omega)
      have HP := Lib.hid hp
      clear hp
      go_enter Try.func14, Try.ntmps14
      go_wp2_with fail
      refine (HR.out _).mono ?_
      rintro e w' ⟨rfl, rfl⟩
      go_wp2_with fail
      go_ret
      exact ⟨by rw [← HP.out, Int.one_mul]; rfl, rfl⟩
  · have e1 : (if base < 1 then 1 else base) = base := if_neg b1
    by_cases b2 : 1048576 < base
    · have b3 : 1048576 < (if base < 1 then 1 else base) := by rw [e1]; exact b2
      clear e1
      by_cases hn : 10 < n
      · have hp : (1073741824 : Int) = pat base n := by unfold pat clampI; rw [if_neg b1, if_pos b2, if_pos hn]; rfl
        have HP := Lib.hid hp
        clear hp
        go_enter Try.func14, Try.ntmps14
        go_wp2_with fail
        refine (HR.out _).mono ?_
        rintro e w' ⟨rfl, rfl⟩
        go_wp2_with fail
        go_ret
        exact ⟨by rw [← HP.out]; rfl, rfl⟩
      · have hp : wrap64 (1048576 * 2 ^ n.toNat) = pat base n := by
          unfold pat clampI; rw [if_neg b1, if_pos b2, if_neg hn]; exact wrap_pat (by omega) (by omega) (by omega)
        have HP := Lib.hid hp
        clear hp
        go_enter Try.func14, Try.ntmps14
        go_wp2_with fail
        refine (HR.out _).mono ?_
        rintro e w' ⟨rfl, rfl⟩
        go_wp2_with fail
        go_ret
        exact ⟨by rw [← HP.out]; rfl, rfl⟩
    · have b3 : ¬ 1048576 < (if base < 1 then 1 else base) := by rw [e1]; exact b2
      clear e1
      by_cases hn : 10 < n
      · have hp : base * 1024 = pat base n := by unfold pat clampI; rw [if_neg b1, if_neg b2, if_pos hn]; rfl
        have HP := Lib.hid hp
        clear hp
        go_enter Try.func14, Try.ntmps14
        go_wp2_with fail
        refine (HR.out _).mono ?_
        rintro e w' ⟨rfl, rfl⟩
        go_wp2_with fail
        go_ret
        exact ⟨by rw [← HP.out]; rfl, rfl⟩
      · have hp : wrap64 (base * 2 ^ n.toNat) = pat base n := by
          unfold pat clampI; rw [if_neg b1, if_neg b2, if_neg hn]; exact wrap_pat (by omega) (by omega) (by omega)
        have HP := Lib.hid hp
        clear hp
        go_enter Try.func14, Try.ntmps14
        go_wp2_with fail
        refine (HR.out _).mono ?_
        rintro e w' ⟨rfl, rfl⟩
        go_wp2_with fail
        go_ret
        exact ⟨by rw [← HP.out]; rfl, rfl⟩


theorem clamp_pow (base : Int) (k : Nat) (hk : k < 10) : 1 ≤ clampI base * 2 ^ k ∧ clampI base * 2 ^ k ≤ 536870912 := by
  obtain ⟨c1, c2⟩ := clamp_bounds base
  have h1 : (2 : Nat) ^ k ≤ 2 ^ 9 := Nat.pow_le_pow_right (by decide) (by omega)
  have h2 : 0 < (2 : Nat) ^ k := Nat.two_pow_pos _
  have e : ((2 ^ k : Nat) : Int) = 2 ^ k := by simp
  obtain ⟨q, hq⟩ : ∃ q : Int, 2 ^ k = q := ⟨_, rfl⟩
  rw [hq] at e ⊢
  constructor
  · exact Int.le_trans (show (1 : Int) ≤ 1 * 1 by omega) (Int.mul_le_mul c1 (by omega) (by omega) (by omega))
  · exact Int.le_trans (Int.mul_le_mul c2 (show q ≤ 512 by omega) (by omega) (by omega)) (by omega)
theorem clamp_succ (base : Int) (k : Nat) : 2 * (clampI base * 2 ^ k) = clampI base * 2 ^ (k + 1) := by
  rw [Int.pow_succ, Int.mul_comm 2, Int.mul_assoc]

set_option maxHeartbeats 1000000 in
theorem refpat_loop {base : Int} {a b : Nat} {h n : Int} {ok : Bool} (n0 : 0 ≤ n) (n1 : n ≤ 1024) (hr : ∀ w, Calls Try.prog 15 #[.complex .f64 a b] w fun e w' => e = .returned (.tuple #[.int .i64 h, .int .i64 n, .bool ok]) ∧ w = w') (w : World) :
    Calls Try.prog 19 #[.int .i64 base, .complex .f64 a b] w fun e w' => e = .returned (.int .i64 (pat base n)) ∧ w = w' := by
  have HR := Lib.hid hr
  clear hr
  have hc : (base < 1 ∧ clampI base = 1) ∨ (1 ≤ base ∧ ¬ 1048576 < base ∧ clampI base = base) ∨ (1 ≤ base ∧ 1048576 < base ∧ clampI base = 1048576) := by unfold clampI; split <;> (try split) <;> omega
  rcases hc with ⟨b1, c⟩ | ⟨b1, b2, c⟩ | ⟨b1, b2, c⟩
  all_goals
    have C := Lib.hid c
    clear c
    go_enter Try.func19, Try.ntmps19
    go_wp2_with fail
    refine (HR.out _).mono ?_
    rintro e w' ⟨rfl, rfl⟩
    go_wp2_with fail
    go_loop [5, 9] (fun v i => ∃ k : Nat, (k : Int) ≤ n ∧ k ≤ 10 ∧ i = .int .i64 k ∧ v = .int .i64 (clampI base * 2 ^ k)) (fun _ i => 10 - (intOf i).toNat)
    case atStart => exact ⟨0, by omega, by omega, rfl, by rw [C.out]; simp⟩
    case round =>
      obtain ⟨k, hk1, hk2, rfl, rfl⟩ := hrel
      by_cases hk : (k : Int) < n ∧ k < 10
      · obtain ⟨g1, g2⟩ := hk
        obtain ⟨p1, p2⟩ := clamp_pow base k g2
        have g3 : (k : Int) < 10 := by omega
        have hs := Lib.hid (clamp_succ base k)
        go_wp2
        go_round
        case rel => exact ⟨k + 1, by omega, by omega, by go_num, by rw [hs.out]⟩
        case measure => simp [intOf]; omega
      · have he : clampI base * 2 ^ k = pat base n := by
          unfold pat
          congr 2
          split <;> omega
        have HE := Lib.hid he
        clear he
        by_cases g1 : (k : Int) < n
        · have g2 : ¬ (k : Int) < 10 := by omega
          clear hk
          go_wp2
          go_ret
          exact ⟨by rw [← HE.out]; rfl, rfl⟩
        · clear hk
          go_wp2
          go_ret
          exact ⟨by rw [← HE.out]; rfl, rfl⟩

theorem patience_yes (base : Int) {a b : Nat} {h n : Int} (p : Pl a b h n) (w : World) :
    Calls Try.prog 14 #[.int .i64 base, .complex .f64 a b] w fun e w' => e = .returned (.int .i64 (pat base n)) ∧ w = w' :=
  patience_of base p.2.1 p.2.2.1 (round_yes p) w
theorem patience_no (base : Int) {a b : Nat} (p : NoPl a b) (w : World) :
    Calls Try.prog 14 #[.int .i64 base, .complex .f64 a b] w fun e w' => e = .returned (.int .i64 (pat base 0)) ∧ w = w' :=
  patience_of base (by omega) (by omega) (round_no p) w
theorem refpat_yes (base : Int) {a b : Nat} {h n : Int} (p : Pl a b h n) (w : World) :
    Calls Try.prog 19 #[.int .i64 base, .complex .f64 a b] w fun e w' => e = .returned (.int .i64 (pat base n)) ∧ w = w' :=
  refpat_loop p.2.1 p.2.2.1 (parts_yes p) w
theorem refpat_no (base : Int) {a b : Nat} (p : NoPl a b) (w : World) :
    Calls Try.prog 19 #[.int .i64 base, .complex .f64 a b] w fun e w' => e = .returned (.int .i64 (pat base 0)) ∧ w = w' :=
  refpat_loop (by omega) (by omega) (parts_no p) w

end Go.Proofs.Ytjifjdmlgbbfdaa
