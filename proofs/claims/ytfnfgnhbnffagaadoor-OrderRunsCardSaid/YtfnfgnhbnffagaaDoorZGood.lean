/-
The functions of the package config, and of its reference, that only look: whether a member, and a configuration, can be; how many members may be wrong, must vote.
-/
import Derived.Test.YtfnfgnhbnffagaaDoorZMb
import Derived.WalkSmall
namespace Go.Proofs.YtfnfgnhbnffagaaDoor
open Go.RowKit
set_option linter.unusedVariables false
set_option maxRecDepth 100000

def rightB (m : Mb) : Bool := decide (1 ≤ m.id ∧ m.id ≤ 63 ∧ 0 ≤ m.key.ht ∧ m.key.ht ≤ 6)

set_option maxHeartbeats 400000 in
theorem right_any {m : Mb} (hm : m.ok) (w : World) : Calls Tryd.prog 69 #[.agg m.arr] w fun e w' => e = .returned (.bool (rightB m)) ∧ Below w.heap.size w w' := by
  have a0 := m.at0
  have a1 := Mb.at33 hm
  by_cases h1 : 1 ≤ m.id
  · by_cases h2 : m.id ≤ 63
    · by_cases h3 : 0 ≤ m.key.ht
      · have hr := Lib.hid (show rightB m = decide (m.key.ht ≤ 6) by unfold rightB; simp [h1, h2, h3])
        go_enter Tryd.func69, Tryd.ntmps69
        go_wp2_with fail
        go_ret
        exact ⟨by rw [hr.out]; rfl, (Below.refl _ _).alloc (Nat.le_refl _) _⟩
      · have hr := Lib.hid (show rightB m = false by unfold rightB; simp; omega)
        go_enter Tryd.func69, Tryd.ntmps69
        go_wp2_with fail
        go_ret
        exact ⟨by rw [hr.out]; rfl, (Below.refl _ _).alloc (Nat.le_refl _) _⟩
    · have hr := Lib.hid (show rightB m = false by unfold rightB; simp; omega)
      go_enter Tryd.func69, Tryd.ntmps69
      go_wp2_with fail
      go_ret
      exact ⟨by rw [hr.out]; rfl, (Below.refl _ _).alloc (Nat.le_refl _) _⟩
  · have hr := Lib.hid (show rightB m = false by unfold rightB; simp; omega)
    go_enter Tryd.func69, Tryd.ntmps69
    go_wp2_with fail
    go_ret
    exact ⟨by rw [hr.out]; rfl, (Below.refl _ _).alloc (Nat.le_refl _) _⟩

set_option maxHeartbeats 400000 in
theorem refRight_any {m : Mb} (hm : m.ok) (w : World) : Calls Tryd.prog 58 #[.agg m.arr] w fun e w' => e = .returned (.bool (rightB m)) ∧ Below w.heap.size w w' := by
  have a0 := m.at0
  have a1 := Mb.at33 hm
  by_cases h1 : 0 < m.id
  · by_cases h2 : m.id < 64
    · by_cases h3 : 0 ≤ m.key.ht
      · have hr := Lib.hid (show rightB m = decide (m.key.ht < 7) by unfold rightB; congr 1; apply propext; omega)
        go_enter Tryd.func58, Tryd.ntmps58
        go_wp2_with fail
        go_ret
        exact ⟨by rw [hr.out]; rfl, (Below.refl _ _).alloc (Nat.le_refl _) _⟩
      · have hr := Lib.hid (show rightB m = false by unfold rightB; simp; omega)
        go_enter Tryd.func58, Tryd.ntmps58
        go_wp2_with fail
        go_ret
        exact ⟨by rw [hr.out]; rfl, (Below.refl _ _).alloc (Nat.le_refl _) _⟩
    · have hr := Lib.hid (show rightB m = false by unfold rightB; simp; omega)
      go_enter Tryd.func58, Tryd.ntmps58
      go_wp2_with fail
      go_ret
      exact ⟨by rw [hr.out]; rfl, (Below.refl _ _).alloc (Nat.le_refl _) _⟩
  · have hr := Lib.hid (show rightB m = false by unfold rightB; simp; omega)
    go_enter Tryd.func58, Tryd.ntmps58
    go_wp2_with fail
    go_ret
    exact ⟨by rw [hr.out]; rfl, (Below.refl _ _).alloc (Nat.le_refl _) _⟩

/-- one member is right, and behind the one ahead of it -/
def fineB (ms : List Mb) (i : Nat) : Bool := rightB (ms.getD i default) && (i == 0 || decide ((ms.getD (i - 1) default).id < (ms.getD i default).id))
def goodB (ep : Int) (ms : List Mb) : Bool := decide (0 ≤ ep ∧ ep ≤ 1073741824 ∧ ms.length ≠ 0 ∧ ms.length ≤ 10) && (List.range ms.length).all (fineB ms)
theorem goodB_all {ep : Int} {ms : List Mb} {n : Nat} (hn : ms.length = n) (h1 : 0 ≤ ep) (h2 : ep ≤ 1073741824) (h3 : n ≠ 0) (h4 : n ≤ 10) (h : ∀ i, i < n → fineB ms i = true) : goodB ep ms = true := by
  subst hn
  unfold goodB
  rw [Bool.and_eq_true, decide_eq_true_eq, List.all_eq_true]
  exact ⟨⟨h1, h2, h3, h4⟩, fun i hi => h i (by simpa using hi)⟩
theorem goodB_not {ep : Int} {ms : List Mb} {n : Nat} (hn : ms.length = n) {i : Nat} (hi : i < n) (h : fineB ms i = false) : goodB ep ms = false := by
  subst hn
  unfold goodB
  rw [Bool.and_eq_false_iff]
  refine .inr (List.all_eq_false.2 ⟨i, by simpa using hi, by rw [h]; decide⟩)
theorem goodB_out {ep : Int} {ms : List Mb} {n : Nat} (hn : ms.length = n) (h : ¬ (0 ≤ ep ∧ ep ≤ 1073741824 ∧ n ≠ 0 ∧ n ≤ 10)) : goodB ep ms = false := by
  subst hn
  unfold goodB
  rw [Bool.and_eq_false_iff]
  exact .inl (decide_eq_false h)

theorem below_new {B : Nat} {w wr w1 : World} {o : Obj} (hbw : Below B w wr) (hs : B ≤ wr.heap.size) (hb1 : Below (wr.alloc o).heap.size (wr.alloc o) w1) : Below B w w1 :=
  (hbw.alloc hs _).trans (hb1.mono (by simp; omega))

set_option maxHeartbeats 2000000 in
theorem good_loop (ep : Int) (A : Option Addr) (n cap : Nat) (ms : List Mb) (w : World) (h : MS w A n ms) (h1 : 0 ≤ ep) (h2 : ep ≤ 1073741824) (h3 : n ≠ 0) (h4 : n ≤ 10) :
    Calls Tryd.prog 68 #[.agg #[.int .i64 ep, .slice A n cap]] w fun e w' => e = .returned (.bool (goodB ep ms)) ∧ Below w.heap.size w w' := by
  obtain ⟨b, off, rfl, hb, hmem⟩ := h.mem (by omega)
  have hn' : ((n : Int) == 0) = false := by rw [beq_eq_false_iff_ne]; omega
  have e1 : ¬ ep < 0 := by omega
  have e2 : ¬ 1073741824 < ep := by omega
  have e3 : ¬ (10 : Int) < (n : Int) := by omega
  have H := Lib.hid h
  have HM := Lib.hid hmem
  clear hmem h
  go_enter Tryd.func68, Tryd.ntmps68
  go_wp2_with fail
  go_loopw [28] (fun t wr => ∃ k : Nat, k ≤ n ∧ t = .int .i64 k ∧ (∀ i, i < k → fineB ms i = true) ∧ Below (w.heap.size + 1) (w.alloc (.cells #[.int .i64 ep, .slice (some ⟨b, off, none⟩) n cap] 26)) wr) (fun t _ => n - (intOf t).toNat)
  case atStart => exact ⟨0, by omega, rfl, fun i hi => by omega, Below.refl _ _⟩
  case round =>
    obtain ⟨k, hk, rfl, hfine, hbel⟩ := hrel
    have hsz : w.heap.size + 1 ≤ wr.heap.size := by simpa using hbel.size
    have hbw : Below w.heap.size w wr := ((Below.refl _ _).alloc (Nat.le_refl _) _).trans (hbel.mono (by omega))
    by_cases hlt : k < n
    · have hm := H.out.okAt hlt
      have hr := (rowAt_below hbw hb _ _).trans (HM.out k hlt)
      have hc1 : wr.cell? ⟨w.heap.size, 1, none⟩ = some (.slice (some ⟨b, off, none⟩) n cap) := by
        rw [hbel.cell (p := ⟨w.heap.size, 1, none⟩) (by show w.heap.size < _; omega)]; simp
      obtain ⟨m, hmd⟩ : ∃ m, ms.getD k default = m := ⟨_, rfl⟩
      have q1 := Mb.sz (hmd ▸ hm : m.ok)
      have q2 := m.ones
      have q3 := Mb.cut (hmd ▸ hm)
      have q4 := m.at0
      rw [hmd] at hm hr
      have hbwr : b < wr.heap.size := Nat.lt_of_lt_of_le hb hbw.size
      have s1 : w.heap.size < wr.heap.size + 1 := by omega
      have s2 : w.heap.size < wr.heap.size := by omega
      have s3 : b < wr.heap.size + 1 := by omega
      have hprev : 0 < k → wr.cell? ⟨b, off + (k - 1) * 34, none⟩ = some (.int .i64 (ms.getD (k - 1) default).id) := fun h0 => by
        have h9 := (rowAt_below hbw hb _ _).trans (HM.out (k - 1) (by omega))
        have := cell_of_rowAt h9 0 _ (Mb.at0 _)
        simpa using this
      have FI := Lib.hid hfine
      clear hfine
      cases hrt : rightB m
      · have hg := Lib.hid (goodB_not (ep := ep) H.out.len hlt (by unfold fineB; rw [hmd, hrt]; rfl))
        clear hmd hprev
        go_wp2_with fail
        refine wp_region_later_lit (by kernel_rfl) (by kernel_rfl) ?_
        repeat (go_big_quiet_step ((go_at_call 69; exact Later.call (right_any hm _))))
        refine wpQuiet_nil ?_
        intro _ hx
        obtain ⟨⟨w1, hb1⟩, rfl⟩ := hx
        go_wp2_with fail
        go_ret
        exact ⟨by rw [hg.out]; rfl, below_new hbw (by omega) hb1⟩
      · by_cases hk0 : 0 < k
        · have hp := hprev hk0
          have h8 : 0 ≤ (k : Int) - 1 := by omega
          have h7 : (k : Int) - 1 < (n : Int) := by omega
          clear hprev
          by_cases hid : (ms.getD (k - 1) default).id < m.id
          · have hf := Lib.hid (show fineB ms k = true by unfold fineB; rw [hmd, hrt, decide_eq_true hid]; simp)
            have q5 : ¬ m.id ≤ (ms.getD (k - 1) default).id := by omega
            obtain ⟨pid, hpid⟩ : ∃ p, (ms.getD (k - 1) default).id = p := ⟨_, rfl⟩
            rw [hpid] at hp q5
            clear hpid hid
            clear hmd
            go_wp2_with fail
            refine wp_region_later_lit (by kernel_rfl) (by kernel_rfl) ?_
            repeat (go_big_quiet_step ((go_at_call 69; exact Later.call (right_any hm _))))
            refine wpQuiet_nil ?_
            intro _ hx
            obtain ⟨⟨w1, hb1⟩, rfl⟩ := hx
            go_wp2_with fail
            go_roundw
            case rel => exact ⟨k + 1, by omega, by go_num, fun i hi => by rcases Nat.lt_or_ge i k with c | c; exact FI.out i c; rw [show i = k by omega]; exact hf.out, below_new hbel (by omega) hb1⟩
            case measure => simp [intOf]; omega
          · have hg := Lib.hid (goodB_not (ep := ep) H.out.len hlt (by unfold fineB; rw [hmd, hrt, decide_eq_false hid]; simp; omega))
            have q5 : m.id ≤ (ms.getD (k - 1) default).id := by omega
            obtain ⟨pid, hpid⟩ : ∃ p, (ms.getD (k - 1) default).id = p := ⟨_, rfl⟩
            rw [hpid] at hp q5
            clear hpid hid
            clear hmd
            go_wp2_with fail
            refine wp_region_later_lit (by kernel_rfl) (by kernel_rfl) ?_
            repeat (go_big_quiet_step ((go_at_call 69; exact Later.call (right_any hm _))))
            refine wpQuiet_nil ?_
            intro _ hx
            obtain ⟨⟨w1, hb1⟩, rfl⟩ := hx
            go_wp2_with fail
            go_ret
            exact ⟨by rw [hg.out]; rfl, below_new hbw (by omega) hb1⟩
        · have hf := Lib.hid (show fineB ms k = true by unfold fineB; rw [hmd, hrt]; simp; omega)
          clear hmd hprev
          go_wp2_with fail
          refine wp_region_later_lit (by kernel_rfl) (by kernel_rfl) ?_
          repeat (go_big_quiet_step ((go_at_call 69; exact Later.call (right_any hm _))))
          refine wpQuiet_nil ?_
          intro _ hx
          obtain ⟨⟨w1, hb1⟩, rfl⟩ := hx
          go_wp2_with fail
          go_roundw
          case rel => exact ⟨k + 1, by omega, by go_num, fun i hi => by rcases Nat.lt_or_ge i k with c | c; exact FI.out i c; rw [show i = k by omega]; exact hf.out, below_new hbel (by omega) hb1⟩
          case measure => simp [intOf]; omega
    · have hg := Lib.hid (goodB_all (ep := ep) H.out.len h1 h2 h3 h4 (fun i hi => hfine i (by omega)))
      clear hfine
      go_wp2_with fail
      go_ret
      exact ⟨by rw [hg.out]; rfl, hbw⟩

theorem good_any (ep : Int) (A : Option Addr) (n cap : Nat) (ms : List Mb) (w : World) (h : MS w A n ms) :
    Calls Tryd.prog 68 #[.agg #[.int .i64 ep, .slice A n cap]] w fun e w' => e = .returned (.bool (goodB ep ms)) ∧ Below w.heap.size w w' := by
  by_cases c : 0 ≤ ep ∧ ep ≤ 1073741824 ∧ n ≠ 0 ∧ n ≤ 10
  · exact good_loop ep A n cap ms w h c.1 c.2.1 c.2.2.1 c.2.2.2
  · have hg := Lib.hid (goodB_out (ep := ep) h.len c)
    have hs := h.small
    have hc : ep < 0 ∨ (¬ ep < 0 ∧ 1073741824 < ep) ∨ (¬ ep < 0 ∧ ¬ 1073741824 < ep ∧ ((n : Int) == 0) = true) ∨ (¬ ep < 0 ∧ ¬ 1073741824 < ep ∧ ((n : Int) == 0) = false ∧ (10 : Int) < n) := by
      simp only [beq_iff_eq, beq_eq_false_iff_ne]
      omega
    clear c h
    rcases hc with c1 | ⟨c1, c2⟩ | ⟨c1, c2, c3⟩ | ⟨c1, c2, c3, c4⟩
    all_goals
      go_enter Tryd.func68, Tryd.ntmps68
      go_wp2_with fail
      go_ret
      exact ⟨by rw [hg.out]; rfl, (Below.refl _ _).alloc (Nat.le_refl _) _⟩

set_option maxHeartbeats 2000000 in
theorem refGood_loop (ep : Int) (A : Option Addr) (n cap : Nat) (ms : List Mb) (w : World) (h : MS w A n ms) (h1 : 0 ≤ ep) (h2 : ep ≤ 1073741824) (h3 : n ≠ 0) (h4 : n ≤ 10) :
    Calls Tryd.prog 57 #[.agg #[.int .i64 ep, .slice A n cap]] w fun e w' => e = .returned (.bool (goodB ep ms)) ∧ Below w.heap.size w w' := by
  obtain ⟨b, off, rfl, hb, hmem⟩ := h.mem (by omega)
  have e1 : ¬ ep < 0 := by omega
  have e2 : ¬ 1073741824 < ep := by omega
  have e3 : ¬ (10 : Int) < (n : Int) := by omega
  have e4 : ¬ (n : Int) < 1 := by omega
  have H := Lib.hid h
  have HM := Lib.hid hmem
  clear hmem h
  go_enter Tryd.func57, Tryd.ntmps57
  go_wp2_with fail
  go_loopw [28] (fun t wr => ∃ k : Nat, k ≤ n ∧ t = .int .i64 k ∧ (∀ i, i < k → fineB ms i = true) ∧ Below (w.heap.size + 1) (w.alloc (.cells #[.int .i64 ep, .slice (some ⟨b, off, none⟩) n cap] 26)) wr) (fun t _ => n - (intOf t).toNat)
  case atStart => exact ⟨0, by omega, rfl, fun i hi => by omega, Below.refl _ _⟩
  case round =>
    obtain ⟨k, hk, rfl, hfine, hbel⟩ := hrel
    have hsz : w.heap.size + 1 ≤ wr.heap.size := by simpa using hbel.size
    have hbw : Below w.heap.size w wr := ((Below.refl _ _).alloc (Nat.le_refl _) _).trans (hbel.mono (by omega))
    by_cases hlt : k < n
    · have hm := H.out.okAt hlt
      have hr := (rowAt_below hbw hb _ _).trans (HM.out k hlt)
      have hc1 : wr.cell? ⟨w.heap.size, 1, none⟩ = some (.slice (some ⟨b, off, none⟩) n cap) := by
        rw [hbel.cell (p := ⟨w.heap.size, 1, none⟩) (by show w.heap.size < _; omega)]; simp
      obtain ⟨m, hmd⟩ : ∃ m, ms.getD k default = m := ⟨_, rfl⟩
      have q1 := Mb.sz (hmd ▸ hm : m.ok)
      have q2 := m.ones
      have q3 := Mb.cut (hmd ▸ hm)
      have q4 := m.at0
      rw [hmd] at hm hr
      have hbwr : b < wr.heap.size := Nat.lt_of_lt_of_le hb hbw.size
      have s1 : w.heap.size < wr.heap.size + 1 := by omega
      have s2 : w.heap.size < wr.heap.size := by omega
      have s3 : b < wr.heap.size + 1 := by omega
      have hprev : 0 < k → wr.cell? ⟨b, off + (k - 1) * 34, none⟩ = some (.int .i64 (ms.getD (k - 1) default).id) := fun h0 => by
        have h9 := (rowAt_below hbw hb _ _).trans (HM.out (k - 1) (by omega))
        have := cell_of_rowAt h9 0 _ (Mb.at0 _)
        simpa using this
      have FI := Lib.hid hfine
      clear hfine
      cases hrt : rightB m
      · have hg := Lib.hid (goodB_not (ep := ep) H.out.len hlt (by unfold fineB; rw [hmd, hrt]; rfl))
        clear hmd hprev
        go_wp2_with fail
        refine (refRight_any hm _).mono ?_
        rintro e w1 ⟨rfl, hb1⟩
        go_wp2_with fail
        go_ret
        exact ⟨by rw [hg.out]; rfl, below_new hbw (by omega) hb1⟩
      · by_cases hk0 : 0 < k
        · have hp := hprev hk0
          have h8 : 0 ≤ (k : Int) - 1 := by omega
          have h7 : (k : Int) - 1 < (n : Int) := by omega
          clear hprev
          by_cases hid : (ms.getD (k - 1) default).id < m.id
          · have hf := Lib.hid (show fineB ms k = true by unfold fineB; rw [hmd, hrt, decide_eq_true hid]; simp)
            have q5 : ¬ m.id ≤ (ms.getD (k - 1) default).id := by omega
            obtain ⟨pid, hpid⟩ : ∃ p, (ms.getD (k - 1) default).id = p := ⟨_, rfl⟩
            rw [hpid] at hp q5
            clear hpid hid hmd
            go_wp2_with fail
            refine (refRight_any hm _).mono ?_
            rintro e w1 ⟨rfl, hb1⟩
            have f1 : w1.cell? ⟨wr.heap.size, 0, none⟩ = some (.int .i64 m.id) := by rw [hb1.cell (p := ⟨wr.heap.size, 0, none⟩) (by simp)]; simp [q4]
            have f2 : w1.cell? ⟨w.heap.size, 1, none⟩ = some (.slice (some ⟨b, off, none⟩) n cap) := by
              rw [hb1.cell (p := ⟨w.heap.size, 1, none⟩) (by simp; omega), World.cell?_alloc_past _ _ _ s2]; exact hc1
            have f3 : w1.cell? ⟨b, off + (k - 1) * 34, none⟩ = some (.int .i64 pid) := by
              rw [hb1.cell (p := ⟨b, off + (k - 1) * 34, none⟩) (by simp; omega), World.cell?_alloc_past _ _ _ hbwr]; exact hp
            go_wp2_with fail
            go_quiet (fail)
            go_wp2_with fail
            go_roundw
            case rel => exact ⟨k + 1, by omega, by go_num, fun i hi => by rcases Nat.lt_or_ge i k with c | c; exact FI.out i c; rw [show i = k by omega]; exact hf.out, below_drewN (below_new hbel (by omega) hb1) _⟩
            case measure => simp [intOf]; omega
          · have hg := Lib.hid (goodB_not (ep := ep) H.out.len hlt (by unfold fineB; rw [hmd, hrt, decide_eq_false hid]; simp; omega))
            have q5 : m.id ≤ (ms.getD (k - 1) default).id := by omega
            obtain ⟨pid, hpid⟩ : ∃ p, (ms.getD (k - 1) default).id = p := ⟨_, rfl⟩
            rw [hpid] at hp q5
            clear hpid hid hmd
            go_wp2_with fail
            refine (refRight_any hm _).mono ?_
            rintro e w1 ⟨rfl, hb1⟩
            have f1 : w1.cell? ⟨wr.heap.size, 0, none⟩ = some (.int .i64 m.id) := by rw [hb1.cell (p := ⟨wr.heap.size, 0, none⟩) (by simp)]; simp [q4]
            have f2 : w1.cell? ⟨w.heap.size, 1, none⟩ = some (.slice (some ⟨b, off, none⟩) n cap) := by
              rw [hb1.cell (p := ⟨w.heap.size, 1, none⟩) (by simp; omega), World.cell?_alloc_past _ _ _ s2]; exact hc1
            have f3 : w1.cell? ⟨b, off + (k - 1) * 34, none⟩ = some (.int .i64 pid) := by
              rw [hb1.cell (p := ⟨b, off + (k - 1) * 34, none⟩) (by simp; omega), World.cell?_alloc_past _ _ _ hbwr]; exact hp
            go_wp2_with fail
            go_quiet (fail)
            go_wp2_with fail
            go_ret
            exact ⟨by rw [hg.out]; rfl, below_drewN (below_new hbw (by omega) hb1) _⟩
        · have hf := Lib.hid (show fineB ms k = true by unfold fineB; rw [hmd, hrt]; simp; omega)
          have hd0 : decide (0 < (k : Int)) = false := by simp; omega
          clear hmd hprev
          go_wp2_with fail
          refine (refRight_any hm _).mono ?_
          rintro e w1 ⟨rfl, hb1⟩
          go_wp2_with fail
          go_quiet (fail)
          go_wp2_with fail
          go_roundw
          case rel => exact ⟨k + 1, by omega, by go_num, fun i hi => by rcases Nat.lt_or_ge i k with c | c; exact FI.out i c; rw [show i = k by omega]; exact hf.out, below_drewN (below_new hbel (by omega) hb1) _⟩
          case measure => simp [intOf]; omega
    · have hg := Lib.hid (goodB_all (ep := ep) H.out.len h1 h2 h3 h4 (fun i hi => hfine i (by omega)))
      clear hfine
      go_wp2_with fail
      go_ret
      exact ⟨by rw [hg.out]; rfl, hbw⟩

theorem refGood_any (ep : Int) (A : Option Addr) (n cap : Nat) (ms : List Mb) (w : World) (h : MS w A n ms) :
    Calls Tryd.prog 57 #[.agg #[.int .i64 ep, .slice A n cap]] w fun e w' => e = .returned (.bool (goodB ep ms)) ∧ Below w.heap.size w w' := by
  by_cases c : 0 ≤ ep ∧ ep ≤ 1073741824 ∧ n ≠ 0 ∧ n ≤ 10
  · exact refGood_loop ep A n cap ms w h c.1 c.2.1 c.2.2.1 c.2.2.2
  · have hg := Lib.hid (goodB_out (ep := ep) h.len c)
    have hs := h.small
    have hc : ep < 0 ∨ (¬ ep < 0 ∧ 1073741824 < ep) ∨ (¬ ep < 0 ∧ ¬ 1073741824 < ep ∧ (n : Int) < 1) ∨ (¬ ep < 0 ∧ ¬ 1073741824 < ep ∧ ¬ (n : Int) < 1 ∧ (10 : Int) < n) := by
      omega
    clear c h
    rcases hc with c1 | ⟨c1, c2⟩ | ⟨c1, c2, c3⟩ | ⟨c1, c2, c3, c4⟩
    all_goals
      go_enter Tryd.func57, Tryd.ntmps57
      go_wp2_with fail
      go_ret
      exact ⟨by rw [hg.out]; rfl, (Below.refl _ _).alloc (Nat.le_refl _) _⟩

end Go.Proofs.YtfnfgnhbnffagaaDoor
