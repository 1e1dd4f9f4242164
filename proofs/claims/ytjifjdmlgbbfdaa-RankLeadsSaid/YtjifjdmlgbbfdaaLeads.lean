/-
RankLeads: Leader and Patience answer what the document says, of all numbers; in n rounds, one behind the other, each of n leads once. No condition.
-/
import Derived.Test.YtjifjdmlgbbfdaaH
import Derived.Laws.MakeOwn
import Derived.WalkSmall
namespace Go.Proofs.Ytjifjdmlgbbfdaa
open Go.ChangeShapes Go.WideShapes Go.ChangeAt Go.RowKit
set_option linter.unusedVariables false
set_option linter.unusedSimpArgs false

/-- who has led in k rounds -/
def led (s n : Int) (k j : Nat) : Bool := decide (∃ m, m < k ∧ (s + (m : Int)) % n = (j : Int))
theorem led_zero (s n : Int) (j : Nat) : led s n 0 j = false := by
  unfold led; exact decide_eq_false (by rintro ⟨m, hm, _⟩; omega)
theorem led_new {s n : Int} {k j : Nat} (hn : 1 ≤ n) (hk : (k : Int) < n) (h : (s + (k : Int)) % n = (j : Int)) : led s n k j = false := by
  unfold led
  refine decide_eq_false ?_
  rintro ⟨m, hm, e⟩
  have e1 : (s + (m : Int)) % n = (s + (k : Int)) % n := by rw [e, h]
  have e2 := Int.emod_emod_of_dvd (s + (k : Int) - (s + (m : Int))) (Int.dvd_refl n)
  have e3 : (s + (k : Int) - (s + (m : Int))) % n = 0 := by
    rw [Int.sub_emod, e1, Int.sub_self, Int.zero_emod]
  have e4 : s + (k : Int) - (s + (m : Int)) = (k : Int) - m := by omega
  rw [e4, Int.emod_eq_of_lt (by omega) (by omega)] at e3
  omega
theorem led_same {s n : Int} {k j : Nat} (h : (s + (k : Int)) % n = (j : Int)) : led s n (k + 1) j = true := by
  unfold led; exact decide_eq_true ⟨k, by omega, h⟩
theorem led_other {s n : Int} {k j j' : Nat} (h : (s + (k : Int)) % n = (j : Int)) (hj : j' ≠ j) : led s n (k + 1) j' = led s n k j' := by
  unfold led
  rw [decide_eq_decide]
  constructor
  · rintro ⟨m, hm, e⟩
    refine ⟨m, ?_, e⟩
    rcases Nat.lt_or_ge m k with c | c
    · exact c
    · exfalso
      have : m = k := by omega
      subst this
      omega
  · rintro ⟨m, hm, e⟩
    exact ⟨m, by omega, e⟩

def falses (n : Nat) : Array Value := madeCells #[.bool false] n

theorem falses_cell (n j : Nat) (h : j < n) : (falses n)[j]? = some (.bool false) := by
  unfold falses madeCells
  simp [h, Nat.mod_one]

theorem info4 : (Try.prog.info? 4).map (fun i => (i.zero, i.size, i.bytes)) = some (some (.bool false), 1, 1) := by kernel_rfl

theorem make_run (n : Nat) (hn : n ≤ 20) (w : World) : (Instr.makeSlice 36 (.int .i64 (n : Int)) (.int .i64 (n : Int))).run Try.prog w = .ok (.slice (some ⟨w.heap.size, 0, none⟩) n n) (w.alloc (.cells (falses n) 4)) := by
  obtain ⟨i0, hi, hz0, hz1, hz2⟩ := info_parts info4
  have := run_make (P := Try.prog) w 36 4 i0 (.bool false) Try.underlying36 hi hz0 .i64 .i64 (n : Int) (n : Int) (by omega) (by omega) (by rw [hz2]; omega) (by omega)
  rw [this, hz1, Nat.mul_one, Int.toNat_natCast]
  rfl

/-- what is known of the world in a round -/
structure InRound (w : World) (s n : Int) (N k : Nat) (wr : World) : Prop where
  cells : ∀ j, j < N → wr.cell? ⟨w.heap.size, j, none⟩ = some (.bool (led s n k j)) ∧ wr.frozen? ⟨w.heap.size, j, none⟩ = false
  below : Below w.heap.size w wr

theorem InRound.start (w : World) (s n : Int) (N : Nat) : InRound w s n N 0 (w.alloc (.cells (falses N) 4)) :=
  ⟨fun j hj => ⟨by rw [World.cell?_alloc_new, falses_cell N j hj, led_zero], by rw [World.frozen?_alloc_new]⟩, (Below.refl _ _).alloc (Nat.le_refl _) _⟩
theorem InRound.step {w : World} {s n : Int} {N k L : Nat} {wr : World} (I : InRound w s n N k wr) (hL : (s + (k : Int)) % n = (L : Int)) (hLN : L < N) :
    InRound w s n N (k + 1) (wr.setCell ⟨w.heap.size, L, none⟩ (.bool true)) := by
  refine ⟨fun j hj => ⟨?_, ?_⟩, I.below.setCell (Nat.le_refl _) _⟩
  · by_cases c : j = L
    · subst c
      rw [World.cell?_setCell_same wr _ _ (I.cells j hj).1, led_same hL]
    · have hne : (⟨w.heap.size, L, none⟩ : Addr) ≠ ⟨w.heap.size, j, none⟩ := by
        intro e; injection e with _ e2 _; exact c e2.symm
      rw [World.cell?_setCell_other wr _ _ _ hne, (I.cells j hj).1, led_other hL c]
  · rw [World.frozen?_setCell]
    exact (I.cells j hj).2

set_option maxHeartbeats 2000000 in
theorem leads_loop (N : Nat) (hN1 : 1 ≤ N) (hN : N ≤ 20) (base : Int) (a b : Nat) (h i : Int) (p : Pl a b h i) (hi : i ≤ 500) (w : World) :
    Calls Try.prog 7 #[.int .i64 (N : Int), .float .f64 a, .float .f64 b, .int .i64 base] w fun e w' => e = .returned (.bool true) ∧ Below w.heap.size w w' := by
  have k40 := Lib.hid (show pat 10 2 = 40 by decide)
  have k1 := Lib.hid (show ((3 : Int) + 2) % 4 = 1 by decide)
  have MK := Lib.hid (make_run N hN)
  have i0 : 0 ≤ i := p.2.1
  have h0 : 1 ≤ h := p.1.1
  have h1 : h ≤ 1024 := p.1.2.1
  have q0 : ¬ (N : Int) < 1 := by omega
  go_enter Try.func7, Try.ntmps7
  go_wp2_with fail
  refine (leader_yes (by omega) pl32 _).mono ?_
  rw [k1.out]
  rintro e w' ⟨rfl, rfl⟩
  go_wp2_with fail
  refine (patience_yes 10 pl32 _).mono ?_
  rw [k40.out]
  rintro e w' ⟨rfl, rfl⟩
  go_wp2_with fail
  refine (parts_yes p _).mono ?_
  rintro e w' ⟨rfl, rfl⟩
  go_wp2_with fail
  refine (leader_yes (by omega) p _).mono ?_
  rintro e w' ⟨rfl, rfl⟩
  go_wp2_with fail
  refine (patience_yes base p _).mono ?_
  rintro e w' ⟨rfl, rfl⟩
  go_wp2_with fail
  refine (refpat_yes base p _).mono ?_
  rintro e w' ⟨rfl, rfl⟩
  have mk := MK.out
  go_wp2_with fail
  clear mk
  go_loopw [9, 15] (fun r t wr => ∃ (k : Nat) (ra rb : Nat), k ≤ N ∧ t = .int .i64 k ∧ r = .complex .f64 ra rb ∧ Pl ra rb h (i + k) ∧ InRound w (h + i) N N k wr) (fun _ t _ => N - (intOf t).toNat)
  case atStart => exact ⟨0, a, b, by omega, rfl, rfl, by simpa using p, InRound.start w _ _ N⟩
  case round =>
    obtain ⟨k, ra, rb, hk, rfl, rfl, pk, I⟩ := hrel
    by_cases hlt : k < N
    · obtain ⟨L, hL⟩ := Int.eq_ofNat_of_zero_le (Int.emod_nonneg (h + i + (k : Int)) (show (N : Int) ≠ 0 by omega))
      have hLN : L < N := by
        have := Int.emod_lt_of_pos (h + i + (k : Int)) (show (0 : Int) < N by omega)
        omega
      have hcall : ∀ w, Calls Try.prog 18 #[.int .i64 (N : Int), .complex .f64 ra rb] w fun e w' => e = .returned (.int .i64 (L : Int)) ∧ w = w' := by
        intro w
        have := leader_yes (n := (N : Int)) (by omega) pk w
        rw [show h + (i + (k : Int)) = h + i + (k : Int) from by omega, hL] at this
        exact this
      have hfalse : led (h + i) N k L = false := led_new (by omega) (by omega) hL
      obtain ⟨hc, hf⟩ := I.cells L hLN
      rw [hfalse] at hc
      have I' := I.step hL hLN
      obtain ⟨z, y, hz, hy⟩ := next_add pk.1.2.2 pk.2.2.2
      obtain ⟨v1, v2⟩ := next_pl pk hz hy
      have pk' : Pl z y h (i + ((k + 1 : Nat) : Int)) := by
        rw [show i + ((k + 1 : Nat) : Int) = i + (k : Int) + 1 from by omega]
        exact ⟨⟨h0, h1, v1⟩, ⟨by omega, by omega, v2⟩⟩
      have HC := Lib.hid hcall; have HZ := Lib.hid hz; have HY := Lib.hid hy
      have hI := Lib.hid I'
      have hP := Lib.hid pk'
      clear hcall hz hy hL v1 v2 I I' pk pk' hfalse
      have t1 : ¬ (L : Int) < 0 := by omega
      have t2 : ¬ (N : Int) ≤ (L : Int) := by omega
      go_wp2_with fail
      refine (HC.out _).mono ?_
      rintro e w' ⟨rfl, rfl⟩
      go_wp2_with fail
      refine (next_any HZ.out HY.out _).mono ?_
      rintro e w' ⟨rfl, rfl⟩
      go_wp2_with fail
      go_roundw
      case rel => exact ⟨k + 1, z, y, by omega, by go_num, rfl, hP.out, hI.out⟩
      case measure => simp [intOf]; omega
    · have hb := I.below
      clear I pk
      go_wp2_with fail
      go_ret
      exact ⟨rfl, hb⟩

set_option maxHeartbeats 1000000 in
theorem leads_none_few (n base : Int) (a b : Nat) (p : NoPl a b) (hn : n < 1) (w : World) :
    Calls Try.prog 7 #[.int .i64 n, .float .f64 a, .float .f64 b, .int .i64 base] w fun e w' => e = .returned (.bool true) ∧ Below w.heap.size w w' := by
  have P := Lib.hid p
  clear p
  have k40 := Lib.hid (show pat 10 2 = 40 by decide)
  have k1 := Lib.hid (show ((3 : Int) + 2) % 4 = 1 by decide)
  go_enter Try.func7, Try.ntmps7
  go_wp2_with fail
  refine (leader_yes (by omega) pl32 _).mono ?_
  rw [k1.out]
  rintro e w' ⟨rfl, rfl⟩
  go_wp2_with fail
  refine (patience_yes 10 pl32 _).mono ?_
  rw [k40.out]
  rintro e w' ⟨rfl, rfl⟩
  go_wp2_with fail
  refine (parts_no P.out _).mono ?_
  rintro e w' ⟨rfl, rfl⟩
  go_wp2_with fail
  refine (leader_few hn _ _ _).mono ?_
  rintro e w' ⟨rfl, rfl⟩
  go_wp2_with fail
  refine (patience_no base P.out _).mono ?_
  rintro e w' ⟨rfl, rfl⟩
  go_wp2_with fail
  refine (refpat_no base P.out _).mono ?_
  rintro e w' ⟨rfl, rfl⟩
  go_wp2_with fail
  go_ret
  exact ⟨rfl, Below.refl _ _⟩

set_option maxHeartbeats 1000000 in
theorem leads_none_more (n base : Int) (a b : Nat) (p : NoPl a b) (hn : ¬ n < 1) (w : World) :
    Calls Try.prog 7 #[.int .i64 n, .float .f64 a, .float .f64 b, .int .i64 base] w fun e w' => e = .returned (.bool true) ∧ Below w.heap.size w w' := by
  have P := Lib.hid p
  clear p
  have k40 := Lib.hid (show pat 10 2 = 40 by decide)
  have k1 := Lib.hid (show ((3 : Int) + 2) % 4 = 1 by decide)
  go_enter Try.func7, Try.ntmps7
  go_wp2_with fail
  refine (leader_yes (by omega) pl32 _).mono ?_
  rw [k1.out]
  rintro e w' ⟨rfl, rfl⟩
  go_wp2_with fail
  refine (patience_yes 10 pl32 _).mono ?_
  rw [k40.out]
  rintro e w' ⟨rfl, rfl⟩
  go_wp2_with fail
  refine (parts_no P.out _).mono ?_
  rintro e w' ⟨rfl, rfl⟩
  go_wp2_with fail
  refine (leader_no (by omega) P.out _).mono ?_
  rintro e w' ⟨rfl, rfl⟩
  go_wp2_with fail
  refine (patience_no base P.out _).mono ?_
  rintro e w' ⟨rfl, rfl⟩
  go_wp2_with fail
  refine (refpat_no base P.out _).mono ?_
  rintro e w' ⟨rfl, rfl⟩
  go_wp2_with fail
  go_ret
  exact ⟨rfl, Below.refl _ _⟩

set_option maxHeartbeats 1000000 in
theorem leads_few (n base : Int) (a b : Nat) {h i : Int} (p : Pl a b h i) (hn : n < 1) (w : World) :
    Calls Try.prog 7 #[.int .i64 n, .float .f64 a, .float .f64 b, .int .i64 base] w fun e w' => e = .returned (.bool true) ∧ Below w.heap.size w w' := by
  have k40 := Lib.hid (show pat 10 2 = 40 by decide)
  have k1 := Lib.hid (show ((3 : Int) + 2) % 4 = 1 by decide)
  go_enter Try.func7, Try.ntmps7
  go_wp2_with fail
  refine (leader_yes (by omega) pl32 _).mono ?_
  rw [k1.out]
  rintro e w' ⟨rfl, rfl⟩
  go_wp2_with fail
  refine (patience_yes 10 pl32 _).mono ?_
  rw [k40.out]
  rintro e w' ⟨rfl, rfl⟩
  go_wp2_with fail
  refine (parts_yes p _).mono ?_
  rintro e w' ⟨rfl, rfl⟩
  go_wp2_with fail
  refine (leader_few hn _ _ _).mono ?_
  rintro e w' ⟨rfl, rfl⟩
  go_wp2_with fail
  refine (patience_yes base p _).mono ?_
  rintro e w' ⟨rfl, rfl⟩
  go_wp2_with fail
  refine (refpat_yes base p _).mono ?_
  rintro e w' ⟨rfl, rfl⟩
  go_wp2_with fail
  go_ret
  exact ⟨rfl, Below.refl _ _⟩

set_option maxHeartbeats 1000000 in
theorem leads_many (n base : Int) (a b : Nat) {h i : Int} (p : Pl a b h i) (hn : ¬ n < 1) (hm : 20 < n ∨ (¬ 20 < n ∧ 500 < i)) (w : World) :
    Calls Try.prog 7 #[.int .i64 n, .float .f64 a, .float .f64 b, .int .i64 base] w fun e w' => e = .returned (.bool true) ∧ Below w.heap.size w w' := by
  have i0 : 0 ≤ i := p.2.1
  have i1 : i ≤ 1024 := p.2.2.1
  have h0 : 1 ≤ h := p.1.1
  have h1 : h ≤ 1024 := p.1.2.1
  have k40 := Lib.hid (show pat 10 2 = 40 by decide)
  have k1 := Lib.hid (show ((3 : Int) + 2) % 4 = 1 by decide)
  rcases hm with hm | ⟨hm, hm'⟩
  all_goals
    go_enter Try.func7, Try.ntmps7
    go_wp2_with fail
    refine (leader_yes (by omega) pl32 _).mono ?_
    rw [k1.out]
    rintro e w' ⟨rfl, rfl⟩
    go_wp2_with fail
    refine (patience_yes 10 pl32 _).mono ?_
    rw [k40.out]
    rintro e w' ⟨rfl, rfl⟩
    go_wp2_with fail
    refine (parts_yes p _).mono ?_
    rintro e w' ⟨rfl, rfl⟩
    go_wp2_with fail
    refine (leader_yes (by omega) p _).mono ?_
    rintro e w' ⟨rfl, rfl⟩
    go_wp2_with fail
    refine (patience_yes base p _).mono ?_
    rintro e w' ⟨rfl, rfl⟩
    go_wp2_with fail
    refine (refpat_yes base p _).mono ?_
    rintro e w' ⟨rfl, rfl⟩
    go_wp2_with fail
    go_ret
    exact ⟨rfl, Below.refl _ _⟩

theorem leads_walk (n : Int) (a b : Nat) (base : Int) (w : World) (w0 : (Lit.int .i64 n).wf = true) (w3 : (Lit.int .i64 base).wf = true) :
    Calls Try.prog 7 #[.int .i64 n, .float .f64 a, .float .f64 b, .int .i64 base] w fun e w' => e = .returned (.bool true) ∧ Below w.heap.size w w' := by
  rcases pl_or a b with ⟨h, i, p⟩ | p
  · by_cases hn : n < 1
    · exact leads_few n base a b p hn w
    · by_cases hm : 20 < n
      · exact leads_many n base a b p hn (.inl hm) w
      · by_cases hi : 500 < i
        · exact leads_many n base a b p hn (.inr ⟨hm, hi⟩) w
        · obtain ⟨N, rfl⟩ := Int.eq_ofNat_of_zero_le (show 0 ≤ n by omega)
          exact leads_loop N (by omega) (by omega) base a b h i p (by omega) w
  · by_cases hn : n < 1
    · exact leads_none_few n base a b p hn w
    · exact leads_none_more n base a b p hn w

set_option maxRecDepth 100000 in
theorem rankLeads_lifted (os : Os) (started : os.Started) (H : Type) (enc : TypeId × Value → H) :
    ReturnsInHanded {} Try.checked os 7 .any (Rows.rankLeadsSpec.pre6 enc Try.prog Try.f7 Rows.rankLeadsRow.domain false) (Rows.rankLeadsSpec.post enc Try.prog Try.f7 false true false false) := by
  refine returnsInHanded_of_change (C := Try.checked) own started (by kernel_rfl) Try.func7
    (ChangeSpec.witness6 (enc := enc) (C := Try.checked) false ⟨#[], #[.int .i64 0, .float .f64 0, .float .f64 0, .int .i64 0], []⟩ 8 (by kernel_rfl) (by kernel_rfl) (by kernel_rfl) (by kernel_rfl)) ?_
  intro W base args ds gs before hval0 hW hcnd _
  have hval : ∀ (j : Nat) t v, Try.f7.params[j]? = some t → args[j]? = some v → Value.okWide Try.prog W .any base t v := hval0
  have hW' := hW
  obtain ⟨p, q, hA0, hV, rfl, hfz, hnd⟩ := hW
  have hA : DataW.TrodAll enc Try.prog W 0 (fun _ => true) true Try.f7.params.toList args.toList ds p := hA0
  rw [Try.params7] at hA hval
  obtain ⟨v0, vs0, d0, ds0, p0, q0, hargs, rfl, rfl, h0, r0⟩ := trodAll_cons hA
  obtain ⟨v1, vs1, d1, ds1, p1, q1, rfl, rfl, rfl, h1, r1⟩ := trodAll_cons r0
  obtain ⟨v2, vs2, d2, ds2, p2, q2, rfl, rfl, rfl, h2, r2⟩ := trodAll_cons r1
  obtain ⟨v3, vs3, d3, ds3, p3, q3, rfl, rfl, rfl, h3, r3⟩ := trodAll_cons r2
  obtain ⟨rfl, rfl, rfl⟩ := trodAll_nil r3
  obtain rfl : args = #[v0, v1, v2, v3] := by cases args; simp_all
  obtain ⟨rfl, rfl⟩ := trodVars_none hV
  obtain ⟨a0, rfl, rfl, rfl, w0⟩ := open_int Try.underlying3 (hval 0 3 v0 rfl rfl) h0
  obtain ⟨a1, rfl, rfl, rfl, w1⟩ := open_float Try.underlying22 (hval 1 22 v1 rfl rfl) h1
  obtain ⟨a2, rfl, rfl, rfl, w2⟩ := open_float Try.underlying22 (hval 2 22 v2 rfl rfl) h2
  obtain ⟨a3, rfl, rfl, rfl, w3⟩ := open_int Try.underlying3 (hval 3 3 v3 rfl rfl) h3
  clear hA0 hval0
  refine (leads_walk a0 a1 a2 a3 W w0 w3).mono fun e W' ⟨he, bel⟩ => ?_
  subst he
  exact ⟨_, rfl, _, _, _, [], _, [], hW', trodAll_mk1 (shut_bool Try.underlying4 _), (trodAll_cons_mk (shut_int Try.underlying3 w0) (trodAll_cons_mk (shut_float Try.underlying22 w1) (trodAll_cons_mk (shut_float Try.underlying22 w2) (trodAll_cons_mk (shut_int Try.underlying3 w3) trodAll_mk0)))), rfl, bel.frame _, fun h => by cases h⟩

theorem rankLeads_holds : Rows.RankLeadsSaid :=
  OpenClaim.holds_of_wide 7 Try.f7 rfl rfl rfl rfl rfl rfl rfl ⟨rfl, rfl, rfl, rfl, rfl⟩ rfl rfl rfl rfl rfl (by kernel_rfl) Try.func7 (by kernel_rfl)
    (of_decide_eq_true (by kernel_rfl)) (by unfold Func.isWrapper; first | (rw [if_pos (by decide +kernel)]; kernel_rfl) | (rw [if_neg (by decide +kernel)]; exact ⟨rfl, rfl⟩))
    (fun os started H enc _ => rankLeads_lifted os started H enc)


end Go.Proofs.Ytjifjdmlgbbfdaa
