/-
Whether two configurations are the same: the reference's Same.
-/
import Derived.Test.YtmiaffgjfpjhfaaEq
import Derived.WalkSmall
namespace Go.Proofs.Ytmiaffgjfpjhfaa
open Go.RowKit
set_option linter.unusedVariables false

def sameB (ep : Int) (ms : List Mb) (ep' : Int) (ks : List Mb) : Bool := decide (ep = ep' ∧ ms = ks)
theorem same_list {ms ks : List Mb} {n : Nat} (h1 : ms.length = n) (h2 : ks.length = n) (h : ∀ i, i < n → ms.getD i default = ks.getD i default) : ms = ks := by
  apply List.ext_getElem (by omega)
  intro i a b
  have := h i (by omega)
  rwa [List.getD_eq_getElem?_getD, List.getD_eq_getElem?_getD, List.getElem?_eq_getElem a, List.getElem?_eq_getElem b] at this

theorem same_far {ep ep' : Int} {A A' : Option Addr} {n cap n' cap' : Nat} {ms ks : List Mb} {w : World} (h : MS w A n ms) (h' : MS w A' n' ks) (hne : ep ≠ ep' ∨ (ep = ep' ∧ n ≠ n')) :
    Calls Try.prog 14 #[.agg #[.int .i64 ep, .slice A n cap], .agg #[.int .i64 ep', .slice A' n' cap']] w fun e w' => e = .returned (.bool (sameB ep ms ep' ks)) ∧ Below w.heap.size w w' := by
  have hs : sameB ep ms ep' ks = false := by
    unfold sameB
    refine decide_eq_false ?_
    rintro ⟨e1, e2⟩
    have l1 := h.len
    have l2 := h'.len
    rw [e2] at l1
    rcases hne with c | ⟨_, c⟩
    · exact c e1
    · omega
  have HS := Lib.hid hs
  have g1 := h.small
  have g2 := h'.small
  clear hs h h'
  rcases hne with c | ⟨c, d⟩
  · have q : (ep != ep') = true := bne_iff_ne.2 c
    clear c
    go_enter Try.func14, Try.ntmps14
    go_wp2_with fail
    go_ret
    exact ⟨by rw [HS.out]; rfl, ((Below.refl _ _).alloc (Nat.le_refl _) _).alloc (by simp) _⟩
  · have q : (ep != ep') = false := by rw [c]; simp
    have q2 : ((n : Int) != (n' : Int)) = true := by rw [bne_iff_ne]; omega
    clear c d
    go_enter Try.func14, Try.ntmps14
    go_wp2_with fail
    go_ret
    exact ⟨by rw [HS.out]; rfl, ((Below.refl _ _).alloc (Nat.le_refl _) _).alloc (by simp) _⟩

set_option maxHeartbeats 2000000 in
theorem same_near (ep : Int) (A A' : Option Addr) (n cap cap' : Nat) (ms ks : List Mb) (w : World) (h : MS w A n ms) (h' : MS w A' n ks) :
    Calls Try.prog 14 #[.agg #[.int .i64 ep, .slice A n cap], .agg #[.int .i64 ep, .slice A' n cap']] w fun e w' => e = .returned (.bool (sameB ep ms ep ks)) ∧ Below w.heap.size w w' := by
  have g1 := h.small
  have hmem : ∀ k, k < n → ∃ b off, A = some ⟨b, off, none⟩ ∧ b < w.heap.size ∧ rowAt w b (off + k * 34) 34 = some (ms.getD k default).arr := fun k hk => by
    obtain ⟨b, off, e, hb, hm⟩ := h.mem (by omega)
    exact ⟨b, off, e, hb, hm k hk⟩
  have hmem' : ∀ k, k < n → ∃ b off, A' = some ⟨b, off, none⟩ ∧ b < w.heap.size ∧ rowAt w b (off + k * 34) 34 = some (ks.getD k default).arr := fun k hk => by
    obtain ⟨b, off, e, hb, hm⟩ := h'.mem (by omega)
    exact ⟨b, off, e, hb, hm k hk⟩
  have HM := Lib.hid hmem
  have HM' := Lib.hid hmem'
  have H := Lib.hid h
  have H' := Lib.hid h'
  clear hmem hmem' h h'
  have q : (ep != ep) = false := by simp
  have q2 : ((n : Int) != (n : Int)) = false := by simp
  go_enter Try.func14, Try.ntmps14
  go_wp2_with fail
  go_loopw [23] (fun t wr => ∃ k : Nat, k ≤ n ∧ t = .int .i64 k ∧ (∀ j, j < k → ms.getD j default = ks.getD j default) ∧ Below (w.heap.size + 2) ((w.alloc (.cells #[.int .i64 ep, .slice A n cap] 24)).alloc (.cells #[.int .i64 ep, .slice A' n cap'] 24)) wr) (fun t _ => n - (intOf t).toNat)
  case atStart => exact ⟨0, by omega, rfl, fun i hi => by omega, Below.refl _ _⟩
  case round =>
    obtain ⟨k, hk, rfl, heq, hbel⟩ := hrel
    have HE := Lib.hid heq
    clear heq
    have hsz : w.heap.size + 2 ≤ wr.heap.size := by simpa using hbel.size
    have hbw : Below w.heap.size w wr := (((Below.refl _ _).alloc (Nat.le_refl _) _).alloc (by simp) _).trans (hbel.mono (by omega))
    by_cases hlt : k < n
    · obtain ⟨b, off, hA, hb, hr0⟩ := HM.out k hlt
      obtain ⟨b', off', hA', hb', hr0'⟩ := HM'.out k hlt
      subst hA; subst hA'
      have hm := H.out.okAt hlt
      have hm' := H'.out.okAt hlt
      have hr := (rowAt_below hbw hb _ _).trans hr0
      have hr' := (rowAt_below hbw hb' _ _).trans hr0'
      have c1 : wr.cell? ⟨w.heap.size, 1, none⟩ = some (.slice (some ⟨b, off, none⟩) n cap) := by
        rw [hbel.cell (p := ⟨w.heap.size, 1, none⟩) (by show w.heap.size < _; omega), World.cell?_alloc_past _ _ _ (by simp), World.cell?_alloc_at _ _ _ _ rfl]; rfl
      have c2 : wr.cell? ⟨w.heap.size + 1, 1, none⟩ = some (.slice (some ⟨b', off', none⟩) n cap') := by
        rw [hbel.cell (p := ⟨w.heap.size + 1, 1, none⟩) (by show w.heap.size + 1 < _; omega), World.cell?_alloc_at _ _ _ _ (by simp)]; rfl
      clear hr0 hr0'
      obtain ⟨m, hmd⟩ : ∃ m, ms.getD k default = m := ⟨_, rfl⟩
      obtain ⟨m', hmd'⟩ : ∃ m, ks.getD k default = m := ⟨_, rfl⟩
      rw [hmd] at hm hr
      rw [hmd'] at hm' hr'
      have hne := fun w => run_neRow hm hm' w
      have MD := Lib.hid hmd
      have MD' := Lib.hid hmd'
      clear hmd hmd'
      by_cases e : m = m'
      · have qe : decide (m = m') = true := decide_eq_true e
        rw [qe] at hne
        have HE' := Lib.hid e
        clear e qe
        go_wp2_with fail
        go_quiet (fail)
        go_wp2_with fail
        go_roundw
        case rel => exact ⟨k + 1, by omega, by go_num, fun j hj => by rcases Nat.lt_or_ge j k with c | c; exact HE.out j c; rw [show j = k by omega, MD.out, MD'.out]; exact HE'.out, below_drewN hbel _⟩
        case measure => simp [intOf]; omega
      · have qe : decide (m = m') = false := decide_eq_false e
        rw [qe] at hne
        have HS := Lib.hid (show sameB ep ms ep ks = false by
          unfold sameB
          refine decide_eq_false ?_
          rintro ⟨_, e2⟩
          exact e (by rw [← MD.out, ← MD'.out, e2]))
        clear e qe
        go_wp2_with fail
        go_quiet (fail)
        go_wp2_with fail
        go_ret
        exact ⟨by rw [HS.out]; rfl, below_drewN hbw _⟩
    · have HS := Lib.hid (show sameB ep ms ep ks = true by
        unfold sameB
        exact decide_eq_true ⟨rfl, same_list H.out.len H'.out.len fun i hi => HE.out i (by omega)⟩)
      go_wp2_with fail
      go_ret
      exact ⟨by rw [HS.out]; rfl, hbw⟩

theorem same_any (ep ep' : Int) (A A' : Option Addr) (n cap n' cap' : Nat) (ms ks : List Mb) (w : World) (h : MS w A n ms) (h' : MS w A' n' ks) :
    Calls Try.prog 14 #[.agg #[.int .i64 ep, .slice A n cap], .agg #[.int .i64 ep', .slice A' n' cap']] w fun e w' => e = .returned (.bool (sameB ep ms ep' ks)) ∧ Below w.heap.size w w' := by
  by_cases c : ep = ep'
  · by_cases d : n = n'
    · subst c; subst d
      exact same_near ep A A' n cap cap' ms ks w h h'
    · exact same_far h h' (.inr ⟨c, d⟩)
  · exact same_far h h' (.inl c)

end Go.Proofs.Ytmiaffgjfpjhfaa
