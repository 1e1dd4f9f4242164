/-
What the laws of the package rank share: the frame's small facts, the tests of places and their order for all numbers, and what the next round's and the next height's places are.
-/
import Derived.Test.YtjifjdmlgbbfdaaW
import Derived.OpenShut
import Derived.ShutString
import Derived.ChangeOld
import Derived.Below
import Derived.RegionTactic
import Derived.Deep.QuietTactic
import Derived.BigQuiet
namespace Go.Proofs.Ytjifjdmlgbbfdaa
open Go.ChangeShapes Go.WideShapes Go.ChangeAt Go.RowKit
set_option linter.unusedVariables false
set_option linter.unusedSimpArgs false

theorem own : ownKnob Try.prog.godebug = none := by kernel_rfl
theorem laidOut : laidOutB Try.prog = true := by kernel_rfl

theorem open_arr2f {H : Type} {enc : TypeId × Value → H} {P : Program} {w : World} {base : Nat} {spare : Nat → Bool} {held : Bool} {r : Reach} {b0 : Nat} {t e : TypeId} {v : Value} {d : DataW H} {p : List MemPlace}
    (ht : P.underlying t = some (.array 2 e)) (he : P.underlying e = some (.float .f64)) (hC : P.cellsOf t = 2) (hE : P.cellsOf e = 1)
    (hv : Value.okWide P w r b0 t v) (h : DataW.Trod enc P w base spare held t v d p) : ∃ a b, v = .agg #[.float .f64 a, .float .f64 b] := by
  simp only [Value.okWide, ht] at hv
  obtain ⟨cs, rfl, hsz, _⟩ := hv
  rw [hC] at hsz
  obtain ⟨c0, c1, rfl⟩ : ∃ c0 c1, cs = #[c0, c1] := by
    obtain ⟨l⟩ := cs
    match l, hsz with
    | [a, b], _ => exact ⟨a, b, rfl⟩
  obtain ⟨fuel, hf⟩ := h
  obtain ⟨xs, m, _, _, _, hl, hx⟩ := DataW.trod_array ht hf
  have key : ∀ (c : Value) (y : DataW H × List MemPlace), DataW.trod enc P w base spare held m e [c] = some y → ∃ b, c = .float .f64 b := by
    intro c y hy
    cases m with
    | zero => simp [DataW.trod] at hy
    | succ m =>
      simp only [DataW.trod, he] at hy
      cases c <;> simp at hy
      obtain ⟨⟨rfl, _⟩, _⟩ := hy
      exact ⟨_, rfl⟩
  have h0 := hx 0 (by omega)
  have h1 := hx 1 (by omega)
  simp [hE, Value.cells] at h0 h1
  obtain ⟨a, rfl⟩ := key _ _ (h0.trans (List.getElem?_eq_getElem (by omega)))
  obtain ⟨b, rfl⟩ := key _ _ (h1.trans (List.getElem?_eq_getElem (by omega)))
  exact ⟨a, b, rfl⟩

theorem is_const {c : Nat} {lo hi n : Int} (h : F n = c) (h1 : lo ≤ n) (h2 : n ≤ hi) (h3 : -(2 ^ 53) < n) (h4 : n < 2 ^ 53) : Is c lo hi n := ⟨h1, h2, by rw [← h]; exact val_F h3 h4⟩



theorem wf_i64_bounds {n : Int} (h : (Lit.int .i64 n).wf = true) : -9223372036854775808 ≤ n ∧ n ≤ 9223372036854775807 := by
  simp [Lit.wf, IntKind.min, IntKind.max, IntKind.signed, IntKind.bits] at h
  omega
theorem F_val_some {n : Int} (h1 : -(2 ^ 64) < n) (h2 : n < 2 ^ 64) : ∃ a, val (Ieee.double.read (F n)) = some a := by
  by_cases c1 : n ≤ -(2 ^ 53)
  · obtain ⟨a, _, hv⟩ := val_F_less c1 h1; exact ⟨_, hv⟩
  · by_cases c2 : 2 ^ 53 ≤ n
    · obtain ⟨a, _, hv⟩ := val_F_great c2 h2; exact ⟨_, hv⟩
    · exact ⟨_, val_F (by omega) (by omega)⟩
theorem self_eq {n : Int} (h : (Lit.int .i64 n).wf = true) : (FloatKind.f64.format.order (floatOfInt .f64 n) (floatOfInt .f64 n) != some .eq) = false := by
  obtain ⟨b1, b2⟩ := wf_i64_bounds h
  obtain ⟨a, ha⟩ := F_val_some (n := n) (by omega) (by omega)
  have : Ieee.double.order (F n) (F n) = some .eq := by rw [ord_of_val ha ha, cmp_eq]
  rw [show FloatKind.f64.format.order (floatOfInt .f64 n) (floatOfInt .f64 n) = some .eq from this]
  rfl

theorem F3 : F 3 = 4613937818241073152 := by decide
theorem F2 : F 2 = 4611686018427387904 := by decide
theorem F4 : F 4 = 4616189618054758400 := by decide
theorem F0 : F 0 = 0 := by decide
theorem F1 : F 1 = 4607182418800017408 := by decide
theorem pl32 : Pl 4613937818241073152 4611686018427387904 3 2 := ⟨is_const F3 (by omega) (by omega) (by omega) (by omega), is_const F2 (by omega) (by omega) (by omega) (by omega)⟩
theorem pl33 : Pl 4613937818241073152 4613937818241073152 3 3 := ⟨is_const F3 (by omega) (by omega) (by omega) (by omega), is_const F3 (by omega) (by omega) (by omega) (by omega)⟩
theorem pl40 : Pl 4616189618054758400 0 4 0 := ⟨is_const F4 (by omega) (by omega) (by omega) (by omega), is_const F0 (by omega) (by omega) (by omega) (by omega)⟩


theorem pat_bounds (base n : Int) : 1 ≤ pat base n ∧ pat base n ≤ 1073741824 := by
  unfold pat
  obtain ⟨c1, c2⟩ := clamp_bounds base
  obtain ⟨m, hm, he⟩ : ∃ m : Int, m ≤ 10 ∧ (if 10 < n then 10 else n) = m := ⟨_, by split <;> omega, rfl⟩
  rw [he]
  obtain ⟨p1, p2⟩ := pow_bounds hm
  obtain ⟨q, hq⟩ : ∃ q : Int, 2 ^ m.toNat = q := ⟨_, rfl⟩
  rw [hq] at p1 p2 ⊢
  constructor
  · exact Int.le_trans (show (1 : Int) ≤ 1 * 1 by omega) (Int.mul_le_mul c1 p1 (by omega) (by omega))
  · exact Int.le_trans (Int.mul_le_mul c2 p2 (by omega) (by omega)) (by omega)
theorem pat_round (base n : Int) : pat base n ≤ pat base (n + 1) := by
  unfold pat
  obtain ⟨c1, c2⟩ := clamp_bounds base
  refine Int.mul_le_mul_of_nonneg_left ?_ (by omega)
  have h : (if 10 < n then 10 else n).toNat ≤ (if 10 < n + 1 then 10 else n + 1).toNat := by split <;> split <;> omega
  have := Nat.pow_le_pow_right (show 0 < 2 by decide) h
  have e : ∀ k : Nat, ((2 ^ k : Nat) : Int) = 2 ^ k := by intro k; simp
  rw [← e, ← e]
  omega
theorem pat_base {base more : Int} (n : Int) (h : base ≤ more) : pat base n ≤ pat more n := by
  unfold pat
  have hc : clampI base ≤ clampI more := by
    unfold clampI; split <;> split <;> (try split) <;> (try split) <;> omega
  refine Int.mul_le_mul_of_nonneg_right hc (Int.pow_nonneg (by decide))

/-- the next round's place, of a place -/
theorem next_pl {a b z y : Nat} {h n : Int} (p : Pl a b h n) (h1 : Ieee.double.add a 0 = some z) (h2 : Ieee.double.add b 4607182418800017408 = some y) :
    val (Ieee.double.read z) = some (h * U) ∧ val (Ieee.double.read y) = some ((n + 1) * U) := by
  obtain ⟨z', hz, vz⟩ := add_whole (y := 0) (k := 0) p.1.2.2 (by rw [← F0]; exact val_F (by omega) (by omega)) (by have := p.1.1; omega) (by have := p.1.2.1; omega)
  obtain ⟨y', hy, vy⟩ := add_whole (y := 4607182418800017408) (k := 1) p.2.2.2 (by rw [← F1]; exact val_F (by omega) (by omega)) (by have := p.2.1; omega) (by have := p.2.2.1; omega)
  rw [h1, Option.some.injEq] at hz
  rw [h2, Option.some.injEq] at hy
  subst hz; subst hy
  rw [Int.add_zero] at vz
  exact ⟨vz, vy⟩
theorem next_add {a b : Nat} {x y : Int} (ha : val (Ieee.double.read a) = some x) (hb : val (Ieee.double.read b) = some y) :
    ∃ z y, Ieee.double.add a 0 = some z ∧ Ieee.double.add b 4607182418800017408 = some y := by
  obtain ⟨z, hz⟩ := add_any (y := 0) ha (by rw [← F0]; exact val_F (by omega) (by omega))
  obtain ⟨t, ht⟩ := add_any (y := 4607182418800017408) hb (by rw [← F1]; exact val_F (by omega) (by omega))
  exact ⟨z, t, hz, ht⟩
theorem val_uniq {x : Nat} {n k : Int} (h : val (Ieee.double.read x) = some (n * U)) (h' : val (Ieee.double.read x) = some (k * U)) : n = k := by
  have := h.symm.trans h'
  rw [Option.some.injEq] at this
  exact mulU_inj.1 this


noncomputable def goodA (a b : Nat) : Bool := @decide (∃ h n, Pl a b h n) (Classical.propDecidable _)
noncomputable def lessA (a b c d : Nat) : Bool := @decide (∃ h n k m, Pl a b h n ∧ Pl c d k m ∧ lessB h n k m = true) (Classical.propDecidable _)
theorem Pl.uniq {a b : Nat} {h n h' n' : Int} (p : Pl a b h n) (q : Pl a b h' n') : h = h' ∧ n = n' := ⟨p.1.uniq q.1, p.2.uniq q.2⟩
theorem goodA_yes {a b : Nat} {h n : Int} (p : Pl a b h n) : goodA a b = true := by
  unfold goodA; exact @decide_eq_true _ (Classical.propDecidable _) ⟨h, n, p⟩
theorem goodA_no {a b : Nat} (p : NoPl a b) : goodA a b = false := by
  unfold goodA; exact @decide_eq_false _ (Classical.propDecidable _) (by rintro ⟨h, n, q⟩; exact p h n q)
theorem lessA_yes {a b c d : Nat} {h n k m : Int} (p : Pl a b h n) (q : Pl c d k m) : lessA a b c d = lessB h n k m := by
  rw [Bool.eq_iff_iff]
  unfold lessA
  rw [@decide_eq_true_iff _ (Classical.propDecidable _)]
  constructor
  · rintro ⟨h', n', k', m', p', q', e⟩
    obtain ⟨rfl, rfl⟩ := p.uniq p'
    obtain ⟨rfl, rfl⟩ := q.uniq q'
    exact e
  · intro e; exact ⟨h, n, k, m, p, q, e⟩
theorem lessA_no {a b c d : Nat} (p : NoPl a b ∨ NoPl c d) : lessA a b c d = false := by
  unfold lessA
  refine @decide_eq_false _ (Classical.propDecidable _) ?_
  rintro ⟨h', n', k', m', p', q', e⟩
  rcases p with p | p
  · exact p _ _ p'
  · exact p _ _ q'
theorem good_any (a b : Nat) (w : World) : Calls Try.prog 10 #[.complex .f64 a b] w fun e w' => e = .returned (.bool (goodA a b)) ∧ w = w' := by
  rcases pl_or a b with ⟨h, n, p⟩ | p
  · rw [goodA_yes p]; exact good_yes p w
  · rw [goodA_no p]; exact good_no p w
theorem less_any (a b c d : Nat) (w : World) : Calls Try.prog 8 #[.complex .f64 a b, .complex .f64 c d] w fun e w' => e = .returned (.bool (lessA a b c d)) ∧ w = w' := by
  rcases pl_or a b with ⟨h, n, p⟩ | p
  · rcases pl_or c d with ⟨k, m, q⟩ | q
    · rw [lessA_yes p q]; exact less_yes p q w
    · rw [lessA_no (.inr q)]; exact less_no (.inr q) w
  · rw [lessA_no (.inl p)]; exact less_no (.inl p) w
theorem refless_any (a b c d : Nat) (w : World) : Calls Try.prog 9 #[.complex .f64 a b, .complex .f64 c d] w fun e w' => e = .returned (.bool (lessA a b c d)) ∧ w = w' := by
  rcases pl_or a b with ⟨h, n, p⟩ | p
  · rcases pl_or c d with ⟨k, m, q⟩ | q
    · rw [lessA_yes p q]; exact refless_yes p q w
    · rw [lessA_no (.inr q)]; exact refless_no (.inr q) w
  · rw [lessA_no (.inl p)]; exact refless_no (.inl p) w
theorem F_inj {m k : Int} (h1 : -(2 ^ 64) < m) (h2 : m < 2 ^ 64) (k1 : -(2 ^ 53) < k) (k2 : k < 2 ^ 53) (h : val (Ieee.double.read (F m)) = some (k * U)) : m = k := by
  have e1 := ord_FF h1 h2 k1 k2
  have e2 := ord_whole h k1 k2
  rw [e1, Option.some.injEq, cmp_eq, cmp_eq_iff] at e2
  exact e2
theorem rise_pl {a u : Nat} {h : Int} (p : Is a 1 1024 h) (h1 : Ieee.double.add a 4607182418800017408 = some u) : val (Ieee.double.read u) = some ((h + 1) * U) := by
  obtain ⟨y', hy, vy⟩ := add_whole (y := 4607182418800017408) (k := 1) p.2.2 (by rw [← F1]; exact val_F (by omega) (by omega)) (by have := p.1; omega) (by have := p.2.1; omega)
  rw [h1, Option.some.injEq] at hy
  subst hy
  exact vy

end Go.Proofs.Ytjifjdmlgbbfdaa
