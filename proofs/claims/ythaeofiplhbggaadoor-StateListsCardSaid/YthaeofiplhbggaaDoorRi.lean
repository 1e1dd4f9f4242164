/-
Do pairs and replies rise?
-/
import Derived.Test.YthaeofiplhbggaaDoorGr
namespace Go.Proofs.YthaeofiplhbggaaDoor
open Go.RowKit
set_option linter.unusedVariables false
set_option linter.unusedSimpArgs false
set_option maxRecDepth 100000
structure Asc (ps : List Pr) (rs : List Rp) : Prop where
  p : ∀ i, i + 1 < ps.length → Op.bytesLess (ps.getD i default).key.toList (ps.getD (i + 1) default).key.toList = true
  r : ∀ i, i + 1 < rs.length → (rs.getD i default).client < (rs.getD (i + 1) default).client
def RisesEnd (ps : List Pr) (rs : List Rp) (w : World) (e : Ending) (w' : World) : Prop :=
  ∃ b, e = .returned (.bool b) ∧ (b = true → Asc ps rs) ∧ Below w.heap.size w w'
set_option maxHeartbeats 4000000 in
theorem Rises_any (v : Value) (ps : List Pr) (rs : List Rp) (ep : Int) (ms : List Mb) (w : World) (h : StS w v ps rs ep ms) (hp300 : ps.length ≤ 300) (hr100 : rs.length ≤ 100) : Calls Tryd.prog 16 #[v] w (RisesEnd ps rs w) := by
  obtain ⟨Ap, cp, Ar, cr, Am, cm, rfl, h1, h2, h3, h4, h5, h6, h7⟩ := h.ex
  obtain ⟨np, hnp⟩ : ∃ n, ps.length = n := ⟨_, rfl⟩
  obtain ⟨nr, hnr⟩ : ∃ n, rs.length = n := ⟨_, rfl⟩
  rw [hnp] at h1 h2 hp300
  rw [hnr] at h3 h4 hr100
  rw [hnp, hnr]
  have HN := Lib.hid (And.intro hnp hnr)
  clear h hnp hnr
  have hB : Below w.heap.size w (w.alloc (.cells #[.slice Ap np cp, .slice Ar nr cr, .int .i64 ep, .slice Am ms.length cm] 28)) := (Below.refl _ _).alloc (Nat.le_refl _) _
  have hA := heap_alloc_new w (.cells #[.slice Ap np cp, .slice Ar nr cr, .int .i64 ep, .slice Am ms.length cm] 28)
  have H := Lib.hid (And.intro h1 h3)
  have HB := Lib.hid (And.intro hB hA)
  have i1 : (np : Int) ≤ 300 := by omega
  have i2 : (nr : Int) ≤ 100 := by omega
  clear h1 h2 h3 h4 h5 h6 h7 hB hA hp300 hr100
  go_enter Tryd.func16, Tryd.ntmps16
  go_wp2_with fail
  go_loopw [8] (fun t wr => ∃ k : Nat, k ≤ np ∧ t = .int .i64 k ∧ (∀ i, i + 1 < k → Op.bytesLess (ps.getD i default).key.toList (ps.getD (i + 1) default).key.toList = true) ∧ Below w.heap.size w wr ∧ wr.heap[w.heap.size]? = some (.cells #[.slice Ap np cp, .slice Ar nr cr, .int .i64 ep, .slice Am ms.length cm] 28 (0, 0))) (fun t _ => np - (intOf t).toNat)
  case atStart => exact ⟨0, Nat.zero_le _, rfl, fun i hi => by omega, HB.out.1, HB.out.2⟩
  case round =>
    obtain ⟨k, hk, rfl, hel, hb, hA⟩ := hrel
    have a0 : wr.cell? ⟨w.heap.size, 0, none⟩ = some (.slice Ap np cp) := by rw [cell_of_row _ _ _ _ _ _ hA]; rfl
    by_cases hlt : k < np
    · have hk1 : (k : Int) < np := by omega
      have E := Lib.hid (And.intro hel (And.intro hb hA))
      clear hel hb hA
      by_cases hz : k = 0
      · have hzi : ¬ (0 : Int) < k := by omega
        have HZ := Lib.hid hz
        have hk0 : (0 : Int) ≤ k := by omega
        have hdz : decide (0 < k) = false := decide_eq_false (by omega)
        clear hz
        go_wp2_with fail
        go_quiet (fail)
        go_wp2_with fail
        go_roundw
        case rel => exact ⟨k + 1, by omega, by go_num, fun i hi => by have := HZ.out; omega, (E.out.2.1.trans (below_drewN (Below.refl _ _) nq |>.mono E.out.2.1.size)), E.out.2.2⟩
        case measure => simp [intOf]; omega
      · have hzi : (0 : Int) < k := by omega
        have hdz : decide (0 < k) = true := decide_eq_true (by omega)
        obtain ⟨j, hj⟩ : ∃ j, j = k - 1 := ⟨_, rfl⟩
        have tn : ((k : Int) - 1).toNat = j := by omega
        obtain ⟨b, off, rfl, hbb, hrow⟩ := H.out.1.mem (by omega)
        have c1 := (E.out.2.1.cell (p := ⟨b, off + j * 2, none⟩) hbb).trans (cell_of_rowAt (hrow j (by omega)) 0 _ (Pr.at0 _))
        have c2 := (E.out.2.1.cell (p := ⟨b, off + k * 2, none⟩) hbb).trans (cell_of_rowAt (hrow k hlt) 0 _ (Pr.at0 _))
        generalize hx : (ps.getD j default).key = x at c1
        generalize hy : (ps.getD k default).key = y at c2
        have HJ := Lib.hid (And.intro hj (And.intro hx hy))
        have hb1 : (0 : Int) ≤ (k : Int) - 1 := by omega
        have hb2 : (k : Int) - 1 < np := by omega
        clear hz hj hx hy hrow
        cases hl : Op.bytesLess x.toList y.toList
        · go_wp2_with fail
          go_quiet (fail)
          go_wp2_with fail
          go_ret
          exact ⟨false, rfl, (fun h => by cases h), (E.out.2.1.trans (below_drewN (Below.refl _ _) nq |>.mono E.out.2.1.size))⟩
        · go_wp2_with fail
          go_quiet (fail)
          go_wp2_with fail
          go_roundw
          case rel =>
            refine ⟨k + 1, by omega, by go_num, fun i hi => ?_, (E.out.2.1.trans (below_drewN (Below.refl _ _) nq |>.mono E.out.2.1.size)), E.out.2.2⟩
            rcases Nat.lt_or_ge (i + 1) k with c | c
            · exact E.out.1 i c
            · obtain rfl : i = j := by have := HJ.out.1; omega
              rw [show i + 1 = k by omega, HJ.out.2.1, HJ.out.2.2]; exact hl
          case measure => simp [intOf]; omega
    · have hkn : np = k := by omega
      subst hkn
      have a1 : wr.cell? ⟨w.heap.size, 1, none⟩ = some (.slice Ar nr cr) := by rw [cell_of_row _ _ _ _ _ _ hA]; rfl
      have EP := Lib.hid hel
      have E0 := Lib.hid (And.intro hb hA)
      clear hel hb hA hk hlt a0
      go_wp2_with fail
      clear a1
      go_loopw [33] (fun t wr => ∃ k : Nat, k ≤ nr ∧ t = .int .i64 k ∧ (∀ i, i + 1 < k → (rs.getD i default).client < (rs.getD (i + 1) default).client) ∧ Below w.heap.size w wr ∧ wr.heap[w.heap.size]? = some (.cells #[.slice Ap np cp, .slice Ar nr cr, .int .i64 ep, .slice Am ms.length cm] 28 (0, 0))) (fun t _ => nr - (intOf t).toNat)
      case atStart => exact ⟨0, Nat.zero_le _, rfl, fun i hi => by omega, E0.out.1, E0.out.2⟩
      case round =>
        clear E0
        obtain ⟨k, hk, rfl, hel, hb, hA⟩ := hrel
        have a0 : wr.cell? ⟨w.heap.size, 1, none⟩ = some (.slice Ar nr cr) := by rw [cell_of_row _ _ _ _ _ _ hA]; rfl
        by_cases hlt : k < nr
        · have hk1 : (k : Int) < nr := by omega
          have E := Lib.hid (And.intro hel (And.intro hb hA))
          clear hel hb hA
          by_cases hz : k = 0
          · have hzi : ¬ (0 : Int) < k := by omega
            have HZ := Lib.hid hz
            have hk0 : (0 : Int) ≤ k := by omega
            have hdz : decide (0 < k) = false := decide_eq_false (by omega)
            clear hz
            go_wp2_with fail
            go_quiet (fail)
            go_wp2_with fail
            go_roundw
            case rel => exact ⟨k + 1, by omega, by go_num, fun i hi => by have := HZ.out; omega, (E.out.2.1.trans (below_drewN (Below.refl _ _) nq |>.mono E.out.2.1.size)), E.out.2.2⟩
            case measure => simp [intOf]; omega
          · have hzi : (0 : Int) < k := by omega
            have hdz : decide (0 < k) = true := decide_eq_true (by omega)
            obtain ⟨j, hj⟩ : ∃ j, j = k - 1 := ⟨_, rfl⟩
            have tn : ((k : Int) - 1).toNat = j := by omega
            obtain ⟨b, off, rfl, hbb, hrow⟩ := H.out.2.mem (by omega)
            have c1 := (E.out.2.1.cell (p := ⟨b, off + j * 4, none⟩) hbb).trans (cell_of_rowAt (hrow j (by omega)) 0 _ (Rp.at0 _))
            have c2 := (E.out.2.1.cell (p := ⟨b, off + k * 4, none⟩) hbb).trans (cell_of_rowAt (hrow k hlt) 0 _ (Rp.at0 _))
            generalize hx : (rs.getD j default).client = x at c1
            generalize hy : (rs.getD k default).client = y at c2
            have HJ := Lib.hid (And.intro hj (And.intro hx hy))
            have hb1 : (0 : Int) ≤ (k : Int) - 1 := by omega
            have hb2 : (k : Int) - 1 < nr := by omega
            clear hz hj hx hy hrow
            by_cases hl : y ≤ x
            · have hdl : decide (y ≤ x) = true := decide_eq_true hl
              go_wp2_with fail
              go_quiet (fail)
              go_wp2_with fail
              go_ret
              exact ⟨false, rfl, (fun h => by cases h), (E.out.2.1.trans (below_drewN (Below.refl _ _) nq |>.mono E.out.2.1.size))⟩
            · have hdl : decide (y ≤ x) = false := decide_eq_false hl
              go_wp2_with fail
              go_quiet (fail)
              go_wp2_with fail
              go_roundw
              case rel =>
                refine ⟨k + 1, by omega, by go_num, fun i hi => ?_, (E.out.2.1.trans (below_drewN (Below.refl _ _) nq |>.mono E.out.2.1.size)), E.out.2.2⟩
                rcases Nat.lt_or_ge (i + 1) k with c | c
                · exact E.out.1 i c
                · obtain rfl : i = j := by have := HJ.out.1; omega
                  rw [show i + 1 = k by omega, HJ.out.2.1, HJ.out.2.2]; omega
              case measure => simp [intOf]; omega
        · have hkn : k = nr := by omega
          subst hkn
          have E := Lib.hid (And.intro hel hb)
          clear hel hb hA a0
          go_wp2_with fail
          go_ret
          exact ⟨true, rfl, fun _ => ⟨fun i hi => EP.out i (by rw [← HN.out.1]; exact hi), fun i hi => E.out.1 i (by rw [← HN.out.2]; exact hi)⟩, E.out.2⟩
end Go.Proofs.YthaeofiplhbggaaDoor
