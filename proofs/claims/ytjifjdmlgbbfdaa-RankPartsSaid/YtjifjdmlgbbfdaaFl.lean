/-
Floats that are whole numbers: how they stand to one another, what their sums are, and what is left of them as an int. No program in sight.
-/
import Derived.Laws.ComplexArith
namespace Go.Proofs.Ytjifjdmlgbbfdaa
open Ieee

/-- a number's value, in units of two to the power of -1074 -/
def val : Datum → Option Int
  | .number s m i => some (signed s m (i + 1074).toNat)
  | _ => none

theorem signed_add (s : Bool) (m a b : Nat) : signed s m (a + b) = signed s m a * 2 ^ b := by
  unfold signed
  cases s <;> simp [Nat.shiftLeft_eq, Nat.pow_add, ← Int.mul_assoc, Int.neg_mul]

set_option linter.unusedSimpArgs false
theorem cmp_lt {a b : Int} (h : a < b) : compare a b = .lt := by simp [Int.compare_eq_ite_lt, h]
theorem cmp_gt {a b : Int} (h : b < a) : compare a b = .gt := by
  have : ¬ a < b := by omega
  simp [Int.compare_eq_ite_lt, h, this]
theorem cmp_eq (a : Int) : compare a a = .eq := by simp [Int.compare_eq_ite_lt]
theorem cmp_lt_iff {a b : Int} : compare a b = .lt ↔ a < b := by
  rcases Int.lt_trichotomy a b with h | h | h
  · simp [cmp_lt h, h]
  · subst h; simp [cmp_eq]
  · simp [cmp_gt h]; omega
theorem cmp_gt_iff {a b : Int} : compare a b = .gt ↔ b < a := by
  rcases Int.lt_trichotomy a b with h | h | h
  · simp [cmp_lt h]; omega
  · subst h; simp [cmp_eq]
  · simp [cmp_gt h, h]
theorem cmp_eq_iff {a b : Int} : compare a b = .eq ↔ a = b := by
  rcases Int.lt_trichotomy a b with h | h | h
  · simp [cmp_lt h]; omega
  · subst h; simp [cmp_eq]
  · simp [cmp_gt h]; omega

theorem cmp_scale (a b : Int) (k : Nat) : compare (a * 2 ^ k) (b * 2 ^ k) = compare a b := by
  have hp : (0 : Int) < 2 ^ k := Int.pow_pos (by decide)
  rcases Int.lt_trichotomy a b with h | h | h
  · rw [cmp_lt h, cmp_lt (Int.mul_lt_mul_of_pos_right h hp)]
  · rw [h, cmp_eq, cmp_eq]
  · rw [cmp_gt h, cmp_gt (Int.mul_lt_mul_of_pos_right h hp)]

theorem order_val {s t : Bool} {m n : Nat} {i j : Int} (hi : -1074 ≤ i) (hj : -1074 ≤ j) :
    Datum.order (.number s m i) (.number t n j) = some (compare (signed s m (i + 1074).toNat) (signed t n (j + 1074).toNat)) := by
  unfold Datum.order
  simp only
  have e1 : (i + 1074).toNat = (i - min i j).toNat + (min i j + 1074).toNat := by omega
  have e2 : (j + 1074).toNat = (j - min i j).toNat + (min i j + 1074).toNat := by omega
  rw [e1, e2, signed_add, signed_add, cmp_scale]

theorem read_place (x : Nat) {s : Bool} {m : Nat} {i : Int} (h : double.read x = .number s m i) : -1074 ≤ i := by
  unfold Format.read at h
  simp only at h
  have hl : double.leastPlace = -1074 := by decide
  split at h
  · injection h with _ _ h; omega
  · split at h
    · injection h with _ _ h; omega
    · split at h <;> cases h

/-- the order of two floats whose values are known -/
theorem ord_of_val {x y : Nat} {a b : Int} (hx : val (double.read x) = some a) (hy : val (double.read y) = some b) :
    double.order x y = some (compare a b) := by
  unfold Format.order
  cases hdx : double.read x with
  | number s m i =>
    cases hdy : double.read y with
    | number t n j =>
      rw [hdx] at hx; rw [hdy] at hy
      simp only [val, Option.some.injEq] at hx hy
      rw [order_val (read_place x hdx) (read_place y hdy), hx, hy]
    | infinity => rw [hdy] at hy; cases hy
    | nan => rw [hdy] at hy; cases hy
  | infinity => rw [hdx] at hx; cases hx
  | nan => rw [hdx] at hx; cases hx

/-- what is not a number is not the same as one -/
theorem ord_none {x y : Nat} {b : Int} (hx : val (double.read x) = none) (hy : val (double.read y) = some b) :
    double.order x y ≠ some .eq := by
  unfold Format.order
  cases hdy : double.read y with
  | number t n j =>
    cases hdx : double.read x with
    | number s m i => rw [hdx] at hx; cases hx
    | infinity s => cases s <;> simp [Datum.order]
    | nan => simp [Datum.order]
  | infinity => rw [hdy] at hy; cases hy
  | nan => rw [hdy] at hy; cases hy

/-- an infinity is on one side of all numbers, a NaN on none -/
theorem ord_none_between {x y z : Nat} {b c : Int} (hx : val (double.read x) = none) (hy : val (double.read y) = some b) (hz : val (double.read z) = some c) :
    ¬ ((double.order x y = some .gt ∨ double.order x y = some .eq) ∧ (double.order x z = some .lt ∨ double.order x z = some .eq)) := by
  unfold Format.order
  cases hdx : double.read x with
  | number s m i => rw [hdx] at hx; cases hx
  | infinity s =>
    cases hdy : double.read y <;> cases hdz : double.read z <;> rw [hdy] at hy <;> rw [hdz] at hz <;> first | (cases hy; done) | (cases hz; done) | skip
    cases s <;> simp [Datum.order]
  | nan => simp [Datum.order]


/-- the places below a whole number's last digit; two to that power: a number's units -/
def E : Nat := 1074
theorem E_eq : E = 1074 := rfl
attribute [irreducible] E
def U : Nat := 2 ^ E

theorem U_le {e : Nat} (h : 1074 ≤ e) : U ≤ 2 ^ e := Nat.pow_le_pow_right (by decide) (by rw [E_eq]; exact h)
theorem le_U {e : Nat} (h : e ≤ 1074) : 2 ^ e ≤ U := Nat.pow_le_pow_right (by decide) (by rw [E_eq]; exact h)
theorem U_pos : 0 < U := Nat.two_pow_pos _
theorem U_split {d : Nat} (h : d ≤ 1074) : U = 2 ^ d * 2 ^ (1074 - d) := by
  have e : d + (1074 - d) = E := by rw [E_eq]; omega
  rw [← Nat.pow_add, e, U]
theorem U_raise (d : Nat) : 2 ^ (d + 1074) = 2 ^ d * U := by
  rw [U, ← Nat.pow_add, E_eq]

theorem read_word {neg : Bool} {rung q r : Nat} (hq : rung = q * 2 ^ 52 + r) (hr : r < 2 ^ 52) (h1 : 1 ≤ q) (h2 : q < 2047) :
    double.read (double.word neg rung) = .number neg (2 ^ 52 + r) (-1074 + (q - 1 : Nat)) := by
  have hs : double.signWeight = 2 ^ 63 := by decide
  have hb : double.binade = 2 ^ 52 := by decide
  have hi : double.infRung = 2047 * 2 ^ 52 := by decide
  have hl : double.leastPlace = -1074 := by decide
  have hlt : rung < 2047 * 2 ^ 52 := by omega
  have hm : double.word neg rung % 2 ^ 63 = rung := by
    unfold Format.word; rw [hs]; cases neg <;> simp <;> omega
  have hn : (double.word neg rung / 2 ^ 63 % 2 == 1) = neg := by
    unfold Format.word; rw [hs]
    cases neg
    · have : rung / 2 ^ 63 = 0 := by omega
      simp [this]
    · have : (2 ^ 63 + rung) / 2 ^ 63 = 1 := by omega
      simp [this]
  unfold Format.read
  simp only [hs, hb, hi, hl, hm, hn]
  rw [if_neg (by omega), if_pos hlt]
  have e1 : rung % 2 ^ 52 = r := by omega
  have e2 : rung / 2 ^ 52 = q := by omega
  rw [e1, e2]

theorem log2_bounds {m L : Nat} (h : 0 < m) (hL : m.log2 = L) : 2 ^ L ≤ m ∧ m < 2 ^ (L + 1) := by
  subst hL
  exact ⟨Nat.log2_self_le (by omega), Nat.lt_log2_self⟩

theorem near_small {neg : Bool} {m : Nat} (h0 : 0 < m) (h : m < 2 ^ 53) :
    val (double.read (double.nearest neg m 0)) = some (if neg then -((m * U : Nat) : Int) else ((m * U : Nat) : Int)) := by
  have hf : double.fractionBits = 52 := by decide
  have hb : double.binade = 2 ^ 52 := by decide
  have hi : double.infRung = 2047 * 2 ^ 52 := by decide
  have hl : double.leastPlace = -1074 := by decide
  obtain ⟨L, hL⟩ : ∃ L, m.log2 = L := ⟨_, rfl⟩
  obtain ⟨b1, b2⟩ := log2_bounds h0 hL
  have hL52 : L ≤ 52 := by
    apply Decidable.byContradiction; intro hc
    have : 2 ^ 53 ≤ 2 ^ L := Nat.pow_le_pow_right (by decide) (by omega)
    omega
  have hk1 : 2 ^ 52 ≤ m * 2 ^ (52 - L) := by
    have : 2 ^ 52 = 2 ^ L * 2 ^ (52 - L) := by rw [← Nat.pow_add, show L + (52 - L) = 52 from by omega]
    rw [this]; exact Nat.mul_le_mul_right _ b1
  have hk2 : m * 2 ^ (52 - L) < 2 ^ 53 := by
    have : 2 ^ 53 = 2 ^ (L + 1) * 2 ^ (52 - L) := by rw [← Nat.pow_add, show L + 1 + (52 - L) = 53 from by omega]
    rw [this]; exact Nat.mul_lt_mul_of_pos_right b2 (Nat.two_pow_pos _)
  have en : double.nearest neg m 0 = double.word neg ((L + 1022) * 2 ^ 52 + m * 2 ^ (52 - L)) := by
    unfold Format.nearest
    simp only [hf, hb, hi, hl, hL]
    rw [if_neg (by omega)]
    have em : max (0 + (L : Int) - (52 : Nat)) (-1074) = (L : Int) - 52 := by omega
    rw [em]
    have e1 : ((0 : Int) - ((L : Int) - 52)).toNat = 52 - L := by omega
    have e2 : (((L : Int) - 52) - 0).toNat = 0 := by omega
    have e3 : (((L : Int) - 52) - -1074).toNat = L + 1022 := by omega
    rw [e1, e2, e3]
    have e4 : Toward.even.cut neg (m <<< (52 - L)) 0 = m * 2 ^ (52 - L) := by
      unfold Toward.cut
      simp [Nat.shiftLeft_eq, Nat.mod_one]
    rw [e4, Nat.min_eq_left (by omega)]
  rw [en, read_word (q := L + 1023) (r := m * 2 ^ (52 - L) - 2 ^ 52) (by omega) (by omega) (by omega) (by omega)]
  have e5 : 2 ^ 52 + (m * 2 ^ (52 - L) - 2 ^ 52) = m * 2 ^ (52 - L) := by omega
  have e6 : (-1074 + ((L + 1023 - 1 : Nat) : Int) + 1074).toNat = L + 1022 := by omega
  simp only [val, e5, e6]
  have e7 : (m * 2 ^ (52 - L)) <<< (L + 1022) = m * U := by
    have e8 : 52 - L + (L + 1022) = E := by rw [E_eq]; omega
    rw [Nat.shiftLeft_eq, Nat.mul_assoc, ← Nat.pow_add, e8, U]
  unfold signed
  rw [e7]

theorem near_great {neg : Bool} {m : Nat} (h0 : 2 ^ 53 ≤ m) (h : m < 2 ^ 64) :
    ∃ a : Nat, 2 ^ 53 * U ≤ a ∧ val (double.read (double.nearest neg m 0)) = some (if neg then -(a : Int) else (a : Int)) := by
  have hf : double.fractionBits = 52 := by decide
  have hb : double.binade = 2 ^ 52 := by decide
  have hi : double.infRung = 2047 * 2 ^ 52 := by decide
  have hl : double.leastPlace = -1074 := by decide
  obtain ⟨L, hL⟩ : ∃ L, m.log2 = L := ⟨_, rfl⟩
  obtain ⟨b1, b2⟩ := log2_bounds (by omega) hL
  have hL53 : 53 ≤ L := by
    apply Decidable.byContradiction; intro hc
    have : 2 ^ (L + 1) ≤ 2 ^ 53 := Nat.pow_le_pow_right (by decide) (by omega)
    omega
  have hL64 : L < 64 := by
    apply Decidable.byContradiction; intro hc
    have : 2 ^ 64 ≤ 2 ^ L := Nat.pow_le_pow_right (by decide) (by omega)
    omega
  obtain ⟨k, hk, hk1, hk2⟩ : ∃ k, Toward.even.cut neg (m <<< 0) (L - 52) = k ∧ 2 ^ 52 ≤ k ∧ k ≤ 2 ^ 53 := by
    refine ⟨_, rfl, ?_, ?_⟩
    all_goals
      unfold Toward.cut
      simp only [Nat.shiftLeft_zero, hL, Nat.one_shiftLeft]
      have em : min (L - 52) (L + 2) = L - 52 := by omega
      rw [em]
      have d1 : 2 ^ 52 ≤ m / 2 ^ (L - 52) := by
        rw [Nat.le_div_iff_mul_le (Nat.two_pow_pos _), ← Nat.pow_add]
        have : 52 + (L - 52) = L := by omega
        rw [this]; exact b1
      have d2 : m / 2 ^ (L - 52) < 2 ^ 53 := by
        rw [Nat.div_lt_iff_lt_mul (Nat.two_pow_pos _), ← Nat.pow_add]
        have : 53 + (L - 52) = L + 1 := by omega
        rw [this]; exact b2
      have hbl : ∀ b : Bool, b.toNat ≤ 1 := fun b => by cases b <;> decide
    · exact Nat.le_trans d1 (Nat.le_add_right _ _)
    · have := hbl (decide (2 ^ (L - 52) < 2 * (m % 2 ^ (L - 52))) || 2 ^ (L - 52) == 2 * (m % 2 ^ (L - 52)) && m / 2 ^ (L - 52) % 2 == 1)
      omega
  have en : double.nearest neg m 0 = double.word neg ((L + 1022) * 2 ^ 52 + k) := by
    unfold Format.nearest
    simp only [hf, hb, hi, hl, hL]
    rw [if_neg (by omega)]
    have em : max (0 + (L : Int) - (52 : Nat)) (-1074) = (L : Int) - 52 := by omega
    rw [em]
    have e1 : ((0 : Int) - ((L : Int) - 52)).toNat = 0 := by omega
    have e2 : (((L : Int) - 52) - 0).toNat = L - 52 := by omega
    have e3 : (((L : Int) - 52) - -1074).toNat = L + 1022 := by omega
    rw [e1, e2, e3, hk, Nat.min_eq_left (by omega)]
  rw [en]
  obtain ⟨q, r, hq, hr, q1, q2⟩ : ∃ q r, (L + 1022) * 2 ^ 52 + k = q * 2 ^ 52 + r ∧ r < 2 ^ 52 ∧ L + 1023 ≤ q ∧ q < 2047 :=
    ⟨((L + 1022) * 2 ^ 52 + k) / 2 ^ 52, ((L + 1022) * 2 ^ 52 + k) % 2 ^ 52, by omega, by omega, by omega, by omega⟩
  rw [read_word hq hr (by omega) q2]
  have e6 : (-1074 + ((q - 1 : Nat) : Int) + 1074).toNat = q - 1 := by omega
  refine ⟨(2 ^ 52 + r) * 2 ^ (q - 1), ?_, ?_⟩
  · have u1 : U ≤ 2 ^ (q - 2) := U_le (by omega)
    have u2 : 2 ^ (q - 1) = 2 * 2 ^ (q - 2) := by
      rw [show q - 1 = (q - 2) + 1 from by omega, Nat.pow_succ, Nat.mul_comm]
    rw [u2]
    have u3 : 2 ^ 53 * U = 2 ^ 52 * (2 * U) := by omega
    rw [u3]
    exact Nat.mul_le_mul (by omega) (by omega)
  · simp only [val, e6, signed, Nat.shiftLeft_eq]


/-- a whole number that is written down as a float is that number, at whatever place it stood -/
theorem near_exact {neg : Bool} {m N : Nat} {p : Int} (h0 : 0 < N) (hN : N < 2 ^ 53) (hp : -1074 ≤ p) (hm : m * 2 ^ (p + 1074).toNat = N * U) :
    val (double.read (double.nearest neg m p)) = some (if neg then -((N * U : Nat) : Int) else ((N * U : Nat) : Int)) := by
  have hf : double.fractionBits = 52 := by decide
  have hb : double.binade = 2 ^ 52 := by decide
  have hi : double.infRung = 2047 * 2 ^ 52 := by decide
  have hl : double.leastPlace = -1074 := by decide
  have hm0 : 0 < m := by
    apply Nat.pos_of_ne_zero; intro hc; subst hc
    rw [Nat.zero_mul] at hm
    have := Nat.mul_pos h0 U_pos
    omega
  obtain ⟨L, hL⟩ : ∃ L, m.log2 = L := ⟨_, rfl⟩
  obtain ⟨b1, b2⟩ := log2_bounds hm0 hL
  obtain ⟨q, hq⟩ : ∃ q, (p + 1074).toNat = q := ⟨_, rfl⟩
  rw [hq] at hm
  -- L + q is from 1074 to 1126
  have lo : 1074 ≤ L + q := by
    apply Decidable.byContradiction; intro hc
    have e1 : 2 ^ (L + 1 + q) ≤ U := le_U (by omega)
    have e2 : m * 2 ^ q < 2 ^ (L + 1 + q) := by rw [Nat.pow_add]; exact Nat.mul_lt_mul_of_pos_right b2 (Nat.two_pow_pos _)
    have e3 : U ≤ N * U := Nat.le_mul_of_pos_left _ h0
    omega
  have hi' : L + q ≤ 1126 := by
    apply Decidable.byContradiction; intro hc
    have e0 : 2 ^ (53 + (L + q - 53 - 1074) + 1074) = 2 ^ (L + q) := by rw [show 53 + (L + q - 53 - 1074) + 1074 = L + q from by omega]
    rw [U_raise, Nat.pow_add, Nat.mul_assoc] at e0
    have e1 : 1 * U ≤ 2 ^ (L + q - 53 - 1074) * U := Nat.mul_le_mul_right _ (Nat.two_pow_pos _)
    have e4 : 2 ^ 53 * U ≤ 2 ^ 53 * (2 ^ (L + q - 53 - 1074) * U) := Nat.mul_le_mul_left _ (by omega)
    have e2 : 2 ^ (L + q) ≤ m * 2 ^ q := by rw [Nat.pow_add]; exact Nat.mul_le_mul_right _ b1
    have e3 : N * U < 2 ^ 53 * U := Nat.mul_lt_mul_of_pos_right hN U_pos
    omega
  obtain ⟨kept, hk, hk1⟩ : ∃ kept, Toward.even.cut neg (m <<< (52 - L)) (L - 52) = kept ∧ kept * 2 ^ (L + q - 52) = m * 2 ^ q := by
    by_cases h : L ≤ 52
    · refine ⟨m * 2 ^ (52 - L), ?_, ?_⟩
      · have e : L - 52 = 0 := by omega
        rw [e]
        unfold Toward.cut
        simp [Nat.shiftLeft_eq, Nat.mod_one]
      · rw [Nat.mul_assoc, ← Nat.pow_add, show 52 - L + (L + q - 52) = q from by omega]
    · have e0 : 52 - L = 0 := by omega
      have eq1 : L - 52 ≤ 1074 - q := by omega
      have hmN : m = N * 2 ^ (1074 - q) := by
        have e1 : U = 2 ^ (1074 - q) * 2 ^ q := by
          have := @U_split (1074 - q) (by omega)
          rwa [show 1074 - (1074 - q) = q from by omega] at this
        rw [e1, ← Nat.mul_assoc] at hm
        exact Nat.eq_of_mul_eq_mul_right (Nat.two_pow_pos _) hm
      have hdiv : m = N * 2 ^ (1074 - q - (L - 52)) * 2 ^ (L - 52) := by
        rw [Nat.mul_assoc, ← Nat.pow_add, show 1074 - q - (L - 52) + (L - 52) = 1074 - q from by omega]
        exact hmN
      refine ⟨N * 2 ^ (1074 - q - (L - 52)), ?_, ?_⟩
      · rw [e0, Nat.shiftLeft_zero]
        unfold Toward.cut
        simp only [hL, Nat.one_shiftLeft]
        rw [show min (L - 52) (L + 2) = L - 52 from by omega]
        have hr : m % 2 ^ (L - 52) = 0 := by rw [hdiv]; exact Nat.mul_mod_left _ _
        have hd : m / 2 ^ (L - 52) = N * 2 ^ (1074 - q - (L - 52)) := by
          conv => lhs; rw [hdiv]
          exact Nat.mul_div_cancel _ (Nat.two_pow_pos _)
        rw [hr, hd]
        have hp2 : 0 < 2 ^ (L - 52) := Nat.two_pow_pos _
        have c1 : decide (2 ^ (L - 52) < 2 * 0) = false := by simp
        have c2 : (2 ^ (L - 52) == 2 * 0) = false := by rw [beq_eq_false_iff_ne]; omega
        rw [c1, c2]
        simp
      · rw [show L + q - 52 = q + (L - 52) from by omega, Nat.pow_add, Nat.mul_comm (2 ^ q), ← Nat.mul_assoc, ← hdiv]
  have k1 : 2 ^ 52 ≤ kept := by
    have e2 : 2 ^ (L + q) ≤ m * 2 ^ q := by rw [Nat.pow_add]; exact Nat.mul_le_mul_right _ b1
    rw [← hk1, show L + q = 52 + (L + q - 52) from by omega, Nat.pow_add, show 52 + (L + q - 52) - 52 = L + q - 52 from by omega] at e2
    exact Nat.le_of_mul_le_mul_right e2 (Nat.two_pow_pos _)
  have k2 : kept < 2 ^ 53 := by
    have e2 : m * 2 ^ q < 2 ^ (L + 1 + q) := by rw [Nat.pow_add]; exact Nat.mul_lt_mul_of_pos_right b2 (Nat.two_pow_pos _)
    rw [← hk1, show L + 1 + q = 53 + (L + q - 52) from by omega, Nat.pow_add] at e2
    exact Nat.lt_of_mul_lt_mul_right e2
  have en : double.nearest neg m p = double.word neg ((L + q - 52) * 2 ^ 52 + kept) := by
    unfold Format.nearest
    simp only [hf, hb, hi, hl, hL]
    rw [if_neg (by omega)]
    have em : max (p + (L : Int) - (52 : Nat)) (-1074) = p + L - 52 := by omega
    rw [em]
    have e1 : (p - (p + (L : Int) - 52)).toNat = 52 - L := by omega
    have e2 : ((p + (L : Int) - 52) - p).toNat = L - 52 := by omega
    have e3 : ((p + (L : Int) - 52) - -1074).toNat = L + q - 52 := by omega
    rw [e1, e2, e3, hk, Nat.min_eq_left (by omega)]
  rw [en, read_word (q := L + q - 52 + 1) (r := kept - 2 ^ 52) (by omega) (by omega) (by omega) (by omega)]
  have e5 : 2 ^ 52 + (kept - 2 ^ 52) = kept := by omega
  have e6 : (-1074 + ((L + q - 52 + 1 - 1 : Nat) : Int) + 1074).toNat = L + q - 52 := by omega
  simp only [val, e5, e6]
  unfold signed
  rw [Nat.shiftLeft_eq, hk1, hm]

theorem near_zero (neg : Bool) (p : Int) : val (double.read (double.nearest neg 0 p)) = some 0 := by
  have : double.nearest neg 0 p = double.word neg 0 := by unfold Format.nearest; rw [if_pos rfl]
  rw [this]
  have h : ∀ b, double.read (double.word b 0) = .number b 0 (-1074) := by decide
  rw [h]
  cases neg <;> simp [val, signed]

/-- float64(n) -/
abbrev F (n : Int) : Nat := floatOfInt .f64 n

theorem F_eq (n : Int) : F n = double.nearest (n < 0) n.natAbs 0 := rfl

theorem val_F {n : Int} (h1 : -(2 ^ 53) < n) (h2 : n < 2 ^ 53) : val (double.read (F n)) = some (n * U) := by
  rw [F_eq]
  rcases Int.lt_trichotomy n 0 with h | h | h
  · rw [near_small (by omega) (by omega)]
    have e : n = -(n.natAbs : Int) := by omega
    rw [if_pos (by simpa using h)]
    congr 1
    rw [Int.natCast_mul, ← Int.neg_mul, ← e]
  · subst h
    have : double.read (double.nearest (decide ((0 : Int) < 0)) (0 : Int).natAbs 0) = .number false 0 (-1074) := by decide
    rw [this]
    simp only [val, signed, Nat.zero_shiftLeft, Int.zero_mul]
    rfl
  · rw [near_small (by omega) (by omega)]
    have e : n = (n.natAbs : Int) := by omega
    rw [if_neg (by simp; omega)]
    congr 1
    rw [Int.natCast_mul, ← e]

theorem val_F_great {n : Int} (h1 : 2 ^ 53 ≤ n) (h2 : n < 2 ^ 64) : ∃ a : Nat, 2 ^ 53 * U ≤ a ∧ val (double.read (F n)) = some (a : Int) := by
  rw [F_eq]
  obtain ⟨a, ha, hv⟩ := near_great (neg := decide (n < 0)) (m := n.natAbs) (by omega) (by omega)
  rw [if_neg (by simp; omega)] at hv
  exact ⟨a, ha, hv⟩

theorem val_F_less {n : Int} (h1 : n ≤ -(2 ^ 53)) (h2 : -(2 ^ 64) < n) : ∃ a : Nat, 2 ^ 53 * U ≤ a ∧ val (double.read (F n)) = some (-(a : Int)) := by
  rw [F_eq]
  obtain ⟨a, ha, hv⟩ := near_great (neg := decide (n < 0)) (m := n.natAbs) (by omega) (by omega)
  rw [if_pos (by simp; omega)] at hv
  exact ⟨a, ha, hv⟩

theorem mulU_lt {a b : Int} : a * (U : Int) < b * U ↔ a < b := by
  have hp : (0 : Int) < (U : Int) := by have := U_pos; omega
  constructor
  · intro h; exact Int.lt_of_mul_lt_mul_right h (by omega)
  · intro h; exact Int.mul_lt_mul_of_pos_right h hp
theorem mulU_le {a b : Int} : a * (U : Int) ≤ b * U ↔ a ≤ b := by
  have := @mulU_lt b a
  omega
theorem mulU_inj {a b : Int} : a * (U : Int) = b * U ↔ a = b := by
  have h1 := @mulU_le a b
  have h2 := @mulU_le b a
  omega

/-- of two whole numbers that the floats have the floats stand as they do; one of them may be any -/
theorem ord_FF {n k : Int} (h1 : -(2 ^ 64) < n) (h2 : n < 2 ^ 64) (k1 : -(2 ^ 53) < k) (k2 : k < 2 ^ 53) : double.order (F n) (F k) = some (compare n k) := by
  have hk := val_F k1 k2
  by_cases c1 : n ≤ -(2 ^ 53)
  · obtain ⟨a, ha, hv⟩ := val_F_less c1 h1
    rw [ord_of_val hv hk, cmp_lt (show n < k by omega), cmp_lt]
    have := @mulU_lt (-(2 ^ 53)) k
    have := this.2 (by omega)
    omega
  · by_cases c2 : 2 ^ 53 ≤ n
    · obtain ⟨a, ha, hv⟩ := val_F_great c2 h2
      rw [ord_of_val hv hk, cmp_gt (show k < n by omega), cmp_gt]
      have := @mulU_lt k (2 ^ 53)
      have := this.2 (by omega)
      omega
    · rw [ord_of_val (val_F (by omega) (by omega)) hk]
      rcases Int.lt_trichotomy n k with h | h | h
      · rw [cmp_lt h, cmp_lt (mulU_lt.2 h)]
      · rw [h, cmp_eq, cmp_eq]
      · rw [cmp_gt h, cmp_gt (mulU_lt.2 h)]

/-- a float that is a whole number -/
theorem ord_whole {x : Nat} {n k : Int} (hx : val (double.read x) = some (n * U)) (k1 : -(2 ^ 53) < k) (k2 : k < 2 ^ 53) : double.order x (F k) = some (compare n k) := by
  rw [ord_of_val hx (val_F k1 k2)]
  rcases Int.lt_trichotomy n k with h | h | h
  · rw [cmp_lt h, cmp_lt (mulU_lt.2 h)]
  · rw [h, cmp_eq, cmp_eq]
  · rw [cmp_gt h, cmp_gt (mulU_lt.2 h)]

theorem eq_iff {x : Nat} {k : Int} (k1 : -(2 ^ 53) < k) (k2 : k < 2 ^ 53) : double.order x (F k) = some .eq ↔ val (double.read x) = some (k * U) := by
  constructor
  · intro h
    cases hv : val (double.read x) with
    | none => exact absurd h (ord_none hv (val_F k1 k2))
    | some a =>
      rw [ord_of_val hv (val_F k1 k2), Option.some.injEq, cmp_eq_iff] at h
      rw [h]
  · intro h
    rw [ord_whole h k1 k2, cmp_eq]

theorem cut_zero (neg : Bool) (n drop : Nat) : Toward.zero.cut neg n drop = n / 2 ^ drop := by
  unfold Toward.cut
  simp only [Nat.one_shiftLeft, Bool.toNat_false, Nat.add_zero]
  by_cases h : drop ≤ n.log2 + 2
  · rw [Nat.min_eq_left h]
  · rw [Nat.min_eq_right (by omega)]
    have h1 : n < 2 ^ (n.log2 + 1) := Nat.lt_log2_self
    have h2 : 2 ^ (n.log2 + 1) ≤ 2 ^ (n.log2 + 2) := Nat.pow_le_pow_right (by decide) (by omega)
    have h3 : 2 ^ (n.log2 + 1) ≤ 2 ^ drop := Nat.pow_le_pow_right (by decide) (by omega)
    rw [Nat.div_eq_of_lt (by omega), Nat.div_eq_of_lt (by omega)]

theorem toInt_val {d : Datum} {v : Nat} (hv : val d = some (v : Int)) (hp : ∀ s m i, d = .number s m i → -1074 ≤ i) : d.toInt .zero = some ((v / U : Nat) : Int) := by
  cases d with
  | infinity => cases hv
  | nan => cases hv
  | number s m i =>
    have hi := hp _ _ _ rfl
    unfold Datum.toInt Datum.integral
    simp only [cut_zero]
    simp only [val, Option.some.injEq] at hv
    have key : m * 2 ^ (i + 1074).toNat = v := by
      unfold signed at hv
      rw [Nat.shiftLeft_eq] at hv
      cases s
      · simp only [Bool.false_eq_true, if_false] at hv; exact Int.ofNat.inj hv
      · simp only [if_true] at hv; omega
    have hU := U_pos
    have q : (m <<< i.toNat) / 2 ^ (-i).toNat = v / U := by
      rw [Nat.shiftLeft_eq]
      by_cases h : 0 ≤ i
      · have e1 : (-i).toNat = 0 := by omega
        have e2 : (i + 1074).toNat = i.toNat + 1074 := by omega
        rw [e1, Nat.pow_zero, Nat.div_one, ← key, e2, U_raise, ← Nat.mul_assoc]
        exact (Nat.mul_div_cancel _ hU).symm
      · have e1 : i.toNat = 0 := by omega
        obtain ⟨k, hk⟩ : ∃ k, (-i).toNat = k := ⟨_, rfl⟩
        have e2 : (i + 1074).toNat = 1074 - k := by omega
        rw [e1, Nat.pow_zero, Nat.mul_one, ← key, e2, hk, @U_split k (by omega)]
        exact (Nat.mul_div_mul_right _ _ (Nat.two_pow_pos _)).symm
    rw [q]
    unfold signed
    rw [Nat.shiftLeft_zero]
    cases s
    · simp
    · have : v = 0 := by
        simp only [signed, if_true] at hv
        omega
      subst this
      simp

theorem toInt_whole {x : Nat} {v : Nat} (hv : val (double.read x) = some (v : Int)) : (FloatKind.f64.decode x).toInt .zero = some ((v / U : Nat) : Int) :=
  toInt_val hv (fun _ _ _ h => read_place x h)

/-- a float is a whole number from one to another -/
def Is (x : Nat) (lo hi n : Int) : Prop := lo ≤ n ∧ n ≤ hi ∧ val (double.read x) = some (n * U)

theorem Is.uniq {x : Nat} {lo hi n k : Int} (h : Is x lo hi n) (h' : Is x lo hi k) : n = k := by
  have := h.2.2.symm.trans h'.2.2
  rw [Option.some.injEq] at this
  exact mulU_inj.1 this

/-- what the test of a float for a whole number says, if it is one -/
theorem yes {x : Nat} {lo hi n : Int} (l0 : 0 ≤ lo) (l1 : hi < 2 ^ 53) (h : Is x lo hi n) :
    (double.order x (F lo) == some .gt || double.order x (F lo) == some .eq) = true ∧
    (double.order x (F hi) == some .lt || double.order x (F hi) == some .eq) = true ∧
    floatToIntVal .f64 x .i64 = some n ∧ double.order x (F n) = some .eq := by
  obtain ⟨h1, h2, hv⟩ := h
  refine ⟨?_, ?_, ?_, (eq_iff (by omega) (by omega)).2 hv⟩
  · rw [ord_whole hv (by omega) (by omega)]
    by_cases e : n = lo
    · rw [e, cmp_eq]; decide
    · rw [cmp_gt (show lo < n by omega)]; decide
  · rw [ord_whole hv (by omega) (by omega)]
    by_cases e : n = hi
    · rw [e, cmp_eq]; decide
    · rw [cmp_lt (show n < hi by omega)]; decide
  · obtain ⟨k, rfl⟩ := Int.eq_ofNat_of_zero_le (show 0 ≤ n by omega)
    have hv' : val (double.read x) = some ((k * U : Nat) : Int) := by rw [hv, Int.natCast_mul]
    unfold floatToIntVal
    rw [toInt_whole hv', Nat.mul_div_cancel _ U_pos]
    have e1 : IntKind.i64.min = -(2 ^ 63) := by decide
    have e2 : IntKind.i64.max = 2 ^ 63 - 1 := by decide
    simp only
    rw [if_pos (by omega)]

/-- what it says if it is none -/
theorem no {x : Nat} {lo hi : Int} (l0 : 0 ≤ lo) (l2 : lo ≤ hi) (l1 : hi < 2 ^ 53) (h : ∀ n, ¬ Is x lo hi n) :
    (double.order x (F lo) == some .gt || double.order x (F lo) == some .eq) = false ∨
    ((double.order x (F lo) == some .gt || double.order x (F lo) == some .eq) = true ∧ (double.order x (F hi) == some .lt || double.order x (F hi) == some .eq) = false) ∨
    ((double.order x (F lo) == some .gt || double.order x (F lo) == some .eq) = true ∧ (double.order x (F hi) == some .lt || double.order x (F hi) == some .eq) = true ∧
      ∃ n, floatToIntVal .f64 x .i64 = some n ∧ (double.order x (F n) == some .eq) = false) := by
  cases b1 : (double.order x (F lo) == some .gt || double.order x (F lo) == some .eq)
  · exact .inl rfl
  cases b2 : (double.order x (F hi) == some .lt || double.order x (F hi) == some .eq)
  · exact .inr (.inl ⟨rfl, rfl⟩)
  refine .inr (.inr ⟨rfl, rfl, ?_⟩)
  have vl := val_F (n := lo) (by omega) (by omega)
  have vh := val_F (n := hi) (by omega) (by omega)
  simp only [Bool.or_eq_true, beq_iff_eq] at b1 b2
  cases hv : val (double.read x) with
  | none => exact absurd ⟨b1, b2⟩ (ord_none_between hv vl vh)
  | some a =>
    rw [ord_of_val hv vl, Option.some.injEq, Option.some.injEq, cmp_gt_iff, cmp_eq_iff] at b1
    rw [ord_of_val hv vh, Option.some.injEq, Option.some.injEq, cmp_lt_iff, cmp_eq_iff] at b2
    have z0 : (0 : Int) * U ≤ lo * U := mulU_le.2 l0
    obtain ⟨v, rfl⟩ := Int.eq_ofNat_of_zero_le (show 0 ≤ a by omega)
    have hU := U_pos
    have hq : ((v / U : Nat) : Int) ≤ hi := by
      have h1 : (v / U * U : Nat) ≤ v := Nat.div_mul_le_self _ _
      have h2 : (((v / U : Nat) : Int)) * (U : Int) ≤ hi * U := by rw [← Int.natCast_mul]; omega
      exact mulU_le.1 h2
    obtain ⟨t, ht⟩ : ∃ t, v / U = t := ⟨_, rfl⟩
    rw [ht] at hq
    refine ⟨(t : Int), ?_, ?_⟩
    · unfold floatToIntVal
      rw [toInt_whole hv, ht]
      have e1 : IntKind.i64.min = -(2 ^ 63) := by decide
      have e2 : IntKind.i64.max = 2 ^ 63 - 1 := by decide
      simp only
      rw [if_pos (by omega)]
    · rw [beq_eq_false_iff_ne, ne_eq, eq_iff (by omega) (by omega)]
      intro hc
      have hc' := hv.symm.trans hc
      rw [Option.some.injEq] at hc'
      refine h _ ⟨?_, ?_, hc⟩
      · exact mulU_le.1 (by omega)
      · exact mulU_le.1 (by omega)


theorem signed_eq (s : Bool) (m k : Nat) : signed s m k = signed s m 0 * 2 ^ k := by
  have := signed_add s m 0 k
  rwa [Nat.zero_add] at this

/-- the sum of two numbers is a number -/
theorem add_any {x y : Nat} {a b : Int} (hx : val (double.read x) = some a) (hy : val (double.read y) = some b) : ∃ z, double.add x y = some z := by
  unfold Format.add
  cases hdx : double.read x with
  | number s m i =>
    cases hdy : double.read y with
    | number t n j => exact ⟨_, rfl⟩
    | infinity => rw [hdy] at hy; cases hy
    | nan => rw [hdy] at hy; cases hy
  | infinity => rw [hdx] at hx; cases hx
  | nan => rw [hdx] at hx; cases hx

/-- the sum of whole numbers is their sum -/
theorem add_whole {x y : Nat} {n k : Int} (hx : val (double.read x) = some (n * U)) (hy : val (double.read y) = some (k * U)) (h0 : 0 ≤ n + k) (h1 : n + k < 2 ^ 53) :
    ∃ z, double.add x y = some z ∧ val (double.read z) = some ((n + k) * U) := by
  unfold Format.add
  cases hdx : double.read x with
  | infinity => rw [hdx] at hx; cases hx
  | nan => rw [hdx] at hx; cases hx
  | number s m i =>
    cases hdy : double.read y with
    | infinity => rw [hdy] at hy; cases hy
    | nan => rw [hdy] at hy; cases hy
    | number t n' j =>
      rw [hdx] at hx; rw [hdy] at hy
      have pi := read_place x hdx
      have pj := read_place y hdy
      simp only [val, Option.some.injEq] at hx hy
      obtain ⟨base, hbase⟩ : ∃ b, min i j = b := ⟨_, rfl⟩
      obtain ⟨total, ht⟩ : ∃ t', signed s m (i - base).toNat + signed t n' (j - base).toNat = t' := ⟨_, rfl⟩
      refine ⟨_, by simp only [Datum.sum, hbase, ht]; rfl, ?_⟩
      have key : total * 2 ^ (base + 1074).toNat = (n + k) * U := by
        rw [← ht, Int.add_mul, ← signed_add, ← signed_add]
        rw [show (i - base).toNat + (base + 1074).toNat = (i + 1074).toNat from by omega, show (j - base).toNat + (base + 1074).toNat = (j + 1074).toNat from by omega, hx, hy, Int.add_mul]
      obtain ⟨N, hN⟩ := Int.eq_ofNat_of_zero_le h0
      rw [hN] at key h1 ⊢
      by_cases hz : total = 0
      · subst hz
        have : N = 0 := by
          rw [Int.zero_mul] at key
          have h2 : (0 : Int) * U = (N : Int) * U := by rw [Int.zero_mul]; exact key
          have := mulU_inj.1 h2
          omega
        subst this
        rw [Int.natAbs_zero]
        show val (double.read (double.nearest _ 0 base)) = _
        rw [near_zero]
        simp
      · have hpos : 0 < total := by
          apply Decidable.byContradiction; intro hc
          have h2 : total * 2 ^ (base + 1074).toNat < 0 := Int.mul_neg_of_neg_of_pos (by omega) (Int.pow_pos (by decide))
          have h3 : (0 : Int) * U ≤ N * U := mulU_le.2 (by omega)
          omega
        obtain ⟨T, hT⟩ := Int.eq_ofNat_of_zero_le (show 0 ≤ total by omega)
        subst hT
        have key' : T * 2 ^ (base + 1074).toNat = N * U := by
          apply Int.ofNat.inj
          simpa using key
        rw [if_neg hz, show decide ((T : Int) < 0) = false from by simp, Int.natAbs_natCast]
        show val (double.read (double.nearest false T base)) = _
        have hN0 : 0 < N := by
          apply Nat.pos_of_ne_zero; intro hc; subst hc
          rw [Nat.zero_mul] at key'
          have := Nat.mul_pos (show 0 < T by omega) (Nat.two_pow_pos (base + 1074).toNat)
          omega
        rw [near_exact hN0 (by omega) (by omega) key']
        simp

end Go.Proofs.Ytjifjdmlgbbfdaa
