/-
More than is played? Do pairs and replies rise?
-/
import Derived.Test.YtfnfgnhbnffagaaDoorZLast
namespace Go.Proofs.YtfnfgnhbnffagaaDoor
open Go.RowKit
set_option linter.unusedVariables false
set_option linter.unusedSimpArgs false
set_option maxRecDepth 100000
@[go_sem] theorem pr_sz (a b : Value) : SizeIs #[a, b] 2 := rfl
@[go_sem] theorem pr_ones (a b : ByteArray) : oneCells #[.string a, .string b] = true := by simp [oneCells, Value.oneCell']
@[go_sem] theorem cut2 (a b : Value) : cut #[a, b] 0 2 = some #[a, b] := cut_all _ _ rfl
/-- what is played -/
structure Fit (ps : List Pr) (rs : List Rp) (ms : List Mb) (most : Nat) : Prop where
  p : ps.length ≤ 300
  r : rs.length ≤ 100
  m : ms.length ≤ 20
  ps : ∀ i, i < ps.length → (ps.getD i default).key.size ≤ most ∧ (ps.getD i default).val.size ≤ most
  vs : ∀ i, i < rs.length → (rs.getD i default).vals.length ≤ 300 ∧ ∀ j, j < (rs.getD i default).vals.length → ((rs.getD i default).vals.getD j ByteArray.empty).size ≤ most
def GreatEnd (ps : List Pr) (rs : List Rp) (ms : List Mb) (most : Nat) (w : World) (e : Ending) (w' : World) : Prop :=
  ∃ b, e = .returned (.bool b) ∧ (b = false → Fit ps rs ms most) ∧ Below w.heap.size w w'
set_option maxHeartbeats 4000000 in
theorem Great_any (v : Value) (ps : List Pr) (rs : List Rp) (ep : Int) (ms : List Mb) (most : Nat) (w : World) (h : StS w v ps rs ep ms) (hm : most ≤ 100000) : Calls Tryd.prog 14 #[v, .int .i64 most] w (GreatEnd ps rs ms most w) := by
  obtain ⟨Ap, cp, Ar, cr, Am, cm, rfl, h1, h2, h3, h4, h5, h6, h7⟩ := h.ex
  obtain ⟨np, hnp⟩ : ∃ n, ps.length = n := ⟨_, rfl⟩
  obtain ⟨nr, hnr⟩ : ∃ n, rs.length = n := ⟨_, rfl⟩
  obtain ⟨nm, hnm⟩ : ∃ n, ms.length = n := ⟨_, rfl⟩
  have s1 := h1.small
  have s3 := h3.small
  have s5 := h5.small
  rw [hnp] at h1 h2 s1
  rw [hnr] at h3 h4 s3
  rw [hnm] at h5 h6 s5
  rw [hnp, hnr, hnm]
  have HN := Lib.hid (And.intro hnp (And.intro hnr hnm))
  clear h hnp hnr hnm
  have hB : Below w.heap.size w (w.alloc (.cells #[.slice Ap np cp, .slice Ar nr cr, .int .i64 ep, .slice Am nm cm] 28)) := (Below.refl _ _).alloc (Nat.le_refl _) _
  have bmost : (most : Int) ≤ 100000 := by omega
  have bmost0 : (0 : Int) ≤ most := by omega
  have H := Lib.hid (And.intro h1 (And.intro h3 h7))
  clear h1 h2 h3 h4 h5 h6 h7
  by_cases hp : 300 < np
  · have hpi : (300 : Int) < np := by omega
    go_enter Tryd.func14, Tryd.ntmps14
    go_wp2_with fail
    go_ret
    exact ⟨true, rfl, (fun h => by cases h), hB⟩
  by_cases hr : 100 < nr
  · have hpi : (100 : Int) < nr := by omega
    have hpj : ¬ (300 : Int) < np := by omega
    go_enter Tryd.func14, Tryd.ntmps14
    go_wp2_with fail
    go_ret
    exact ⟨true, rfl, (fun h => by cases h), hB⟩
  by_cases hq : 20 < nm
  · have hpi : (20 : Int) < nm := by omega
    have hpj : ¬ (100 : Int) < nr := by omega
    have hpk : ¬ (300 : Int) < np := by omega
    go_enter Tryd.func14, Tryd.ntmps14
    go_wp2_with fail
    go_ret
    exact ⟨true, rfl, (fun h => by cases h), hB⟩
  have i1 : (np : Int) ≤ 300 := by omega
  have i2 : (nr : Int) ≤ 100 := by omega
  have i3 : (nm : Int) ≤ 20 := by omega
  have d1 : decide ((300 : Int) < np) = false := decide_eq_false (by omega)
  have d2 : decide ((100 : Int) < nr) = false := decide_eq_false (by omega)
  have d3 : decide ((20 : Int) < nm) = false := decide_eq_false (by omega)
  have hA := heap_alloc_new w (.cells #[.slice Ap np cp, .slice Ar nr cr, .int .i64 ep, .slice Am nm cm] 28)
  have HB := Lib.hid (And.intro hB hA)
  have HP := Lib.hid (And.intro hp (And.intro hr hq))
  clear s1 s3 s5 hp hr hq hA hB
  go_enter Tryd.func14, Tryd.ntmps14
  go_wp2_with fail
  go_loopw [5, 32] (fun t5 t32 wr => ∃ k m : Nat, k ≤ np ∧ t32 = .int .i64 k ∧ t5 = .int .i64 m ∧ m ≤ most ∧ (∀ i, i < k → (ps.getD i default).key.size ≤ most ∧ (ps.getD i default).val.size ≤ most) ∧ Below w.heap.size w wr ∧ wr.heap[w.heap.size]? = some (.cells #[.slice Ap np cp, .slice Ar nr cr, .int .i64 ep, .slice Am nm cm] 28 (0, 0))) (fun _ t _ => np - (intOf t).toNat)
  case atStart => exact ⟨0, 0, Nat.zero_le _, rfl, rfl, Nat.zero_le _, fun i hi => by omega, HB.out.1, HB.out.2⟩
  case round =>
    obtain ⟨k, m, hk, rfl, rfl, hmm, hel, hb, hA⟩ := hrel
    have hk0 : (0 : Int) ≤ k := by omega
    have hm0 : (0 : Int) ≤ m := by omega
    have hm1 : (m : Int) ≤ most := by omega
    by_cases hlt : k < np
    · have hk1 : (k : Int) < np := by omega
      obtain ⟨b, off, rfl, hbb, hrow⟩ := H.out.1.mem (by omega)
      have hr := (rowAt_below hb hbb _ _).trans (hrow k hlt)
      have hok := H.out.1.okAt hlt
      generalize hx : ps.getD k default = x at hr hok
      obtain ⟨key, val⟩ := x
      replace hr : rowAt wr b (off + k * 2) 2 = some #[.string key, .string val] := hr
      have k1 : (key.size : Int) ≤ 140737488355328 := by have : key.size ≤ 140737488355328 := hok.k; omega
      have k2 : (val.size : Int) ≤ 140737488355328 := by have : val.size ≤ 140737488355328 := hok.v; omega
      have k3 : (0 : Int) ≤ key.size := by omega
      have k4 : (0 : Int) ≤ val.size := by omega
      have E := Lib.hid (And.intro hx (And.intro hel (And.intro hb hA)))
      clear hx hok hrow hel hb hA
      by_cases hbig : (most : Int) < m + 1 + key.size + val.size
      · go_wp2_with fail
        go_ret
        exact ⟨true, rfl, (fun h => by cases h), E.out.2.2.1.alloc E.out.2.2.1.size _⟩
      · have hsm : (m : Int) + 1 + key.size + val.size ≤ most := by omega
        go_wp2_with fail
        go_roundw
        case rel =>
          refine ⟨k + 1, m + 1 + key.size + val.size, by omega, by go_num, by go_num, by omega, fun i hi => ?_, E.out.2.2.1.alloc E.out.2.2.1.size _, ?_⟩
          · rcases Nat.lt_or_ge i k with c | c
            · exact E.out.2.1 i c
            · obtain rfl : i = k := by omega
              rw [E.out.1]
              exact ⟨by show key.size ≤ most; omega, by show val.size ≤ most; omega⟩
          · rw [Below.heap_alloc _ _ _ (Array.getElem?_eq_some_iff.1 E.out.2.2.2).1]; exact E.out.2.2.2
        case measure => simp [intOf]; omega
    · have hkn : k = np := by omega
      subst hkn
      have a1 : wr.cell? ⟨w.heap.size, 1, none⟩ = some (.slice Ar nr cr) := by rw [cell_of_row _ _ _ _ _ _ hA]; rfl
      have EP := Lib.hid hel
      have E0 := Lib.hid (And.intro hb hA)
      clear hel hb hA hk hlt hk0
      go_wp2_with fail
      clear a1
      go_loopw [5, 53] (fun t5 t53 wr => ∃ j m : Nat, j ≤ nr ∧ t53 = .int .i64 j ∧ t5 = .int .i64 m ∧ m ≤ most ∧ (∀ i, i < j → (rs.getD i default).vals.length ≤ 300 ∧ ∀ q, q < (rs.getD i default).vals.length → ((rs.getD i default).vals.getD q ByteArray.empty).size ≤ most) ∧ Below w.heap.size w wr) (fun _ t _ => nr - (intOf t).toNat)
      case atStart => exact ⟨0, m, Nat.zero_le _, rfl, rfl, hmm, fun i hi => by omega, E0.out.1⟩
      case round =>
        clear hmm hm0 hm1 E0
        rename_i m0 _ _ _ _
        obtain ⟨j, m, hj, rfl, rfl, hmm, hel, hb⟩ := hrel
        have hj0 : (0 : Int) ≤ j := by omega
        have hm0 : (0 : Int) ≤ m := by omega
        have hm1 : (m : Int) ≤ most := by omega
        by_cases hlt : j < nr
        · have hj1 : (j : Int) < nr := by omega
          obtain ⟨b, off, rfl, hbb, hrow⟩ := H.out.2.1.mem (by omega)
          have hr := (rowAt_below hb hbb _ _).trans (hrow j hlt)
          have hok := H.out.2.1.okAt hlt
          have hin : rs.getD j default ∈ rs := by
            have := HN.out.2.1
            rw [List.getD_eq_getElem?_getD, List.getElem?_eq_getElem (by omega)]
            exact List.getElem_mem _
          obtain ⟨ht, hs⟩ := H.out.2.2 _ hin
          generalize hx : rs.getD j default = x at hr hok ht hs
          obtain ⟨rc, rn, re, rA, rq, vals⟩ := x
          obtain ⟨q, hq⟩ : ∃ q, vals.length = q := ⟨_, rfl⟩
          replace hr : rowAt wr b (off + j * 4) 4 = some #[.int .i64 rc, .int .i64 rn, .int .i64 re, .slice rA vals.length rq] := hr
          rw [hq] at hr
          simp only [hq] at ht hs
          have hsz : ∀ i, i < q → ((vals.getD i ByteArray.empty).size : Int) ≤ 140737488355328 := fun i hi => by
            have : (vals.getD i ByteArray.empty).size ≤ 140737488355328 := hok.s _ (by rw [List.getD_eq_getElem?_getD, List.getElem?_eq_getElem (by omega)]; exact List.getElem_mem _)
            omega
          have ht5 := ht.below hb
          have E := Lib.hid (And.intro hx (And.intro hel (And.intro hb (And.intro hq (And.intro ht5 hsz)))))
          have hqs := ht.small
          clear hx hok hrow hel hb hq ht ht5 hs hsz hin
          by_cases hbig : 300 < q
          · have hqi : (300 : Int) < q := by omega
            clear hqs
            go_wp2_with fail
            go_ret
            exact ⟨true, rfl, (fun h => by cases h), E.out.2.2.1.alloc E.out.2.2.1.size _⟩
          · have hqi : (q : Int) ≤ 300 := by omega
            have hqd : decide ((300 : Int) < q) = false := decide_eq_false (by omega)
            have HQ := Lib.hid hbig
            clear hqs hbig
            go_wp2_with fail
            go_loopw [5, 64] (fun t5 t64 w2 => ∃ i m : Nat, i ≤ q ∧ t64 = .int .i64 i ∧ t5 = .int .i64 m ∧ m ≤ most ∧ (∀ p, p < i → (vals.getD p ByteArray.empty).size ≤ most) ∧ Below wr.heap.size wr w2) (fun _ t _ => q - (intOf t).toNat)
            case atStart => exact ⟨0, m, Nat.zero_le _, rfl, rfl, hmm, fun i hi => by omega, (Below.refl _ _).alloc (Nat.le_refl _) _⟩
            case round =>
              clear hmm hm0 hm1
              obtain ⟨i, m, hi, rfl, rfl, hmm, hel, hb⟩ := hrel
              have hi0 : (0 : Int) ≤ i := by omega
              have hm0 : (0 : Int) ≤ m := by omega
              have hm1 : (m : Int) ≤ most := by omega
              by_cases hlt2 : i < q
              · have hi1 : (i : Int) < q := by omega
                obtain ⟨b2, off2, rfl, hbb2, hc2⟩ := E.out.2.2.2.2.1.mem (by omega)
                have hc := (hb.cell (p := ⟨b2, off2 + i, none⟩) hbb2).trans (hc2 i hlt2)
                have hz := E.out.2.2.2.2.2 i hlt2
                generalize hv : vals.getD i ByteArray.empty = v at hc hz
                have hz0 : (0 : Int) ≤ v.size := by omega
                have E2 := Lib.hid (And.intro hv (And.intro hel hb))
                clear hv hel hb hc2 hr
                by_cases hbig : (most : Int) < m + 1 + v.size
                · go_wp2_with fail
                  go_ret
                  exact ⟨true, rfl, (fun h => by cases h), E.out.2.2.1.trans (E2.out.2.2.mono E.out.2.2.1.size)⟩
                · have hsm : (m : Int) + 1 + v.size ≤ most := by omega
                  go_wp2_with fail
                  go_roundw
                  case rel =>
                    refine ⟨i + 1, m + 1 + v.size, by omega, by go_num, by go_num, by omega, fun p hp => ?_, E2.out.2.2⟩
                    rcases Nat.lt_or_ge p i with c | c
                    · exact E2.out.2.1 p c
                    · obtain rfl : p = i := by omega
                      rw [E2.out.1]; omega
                  case measure => simp [intOf]; omega
              · have hiq : i = q := by omega
                subst hiq
                have E2 := Lib.hid (And.intro hel hb)
                clear hel hb hr
                go_wp2_with fail
                go_roundw
                case rel =>
                  refine ⟨j + 1, m, by omega, by go_num, rfl, hmm, fun p hp => ?_, E.out.2.2.1.trans (E2.out.2.mono E.out.2.2.1.size)⟩
                  rcases Nat.lt_or_ge p j with c | c
                  · exact E.out.2.1 p c
                  · obtain rfl : p = j := by omega
                    rw [E.out.1]
                    exact ⟨by show vals.length ≤ 300; have := E.out.2.2.2.1; have := HQ.out; omega, fun x hx => E2.out.1 x (by rw [← E.out.2.2.2.1]; exact hx)⟩
                case measure => simp [intOf]; omega
        · have hjn : j = nr := by omega
          subst hjn
          have E := Lib.hid (And.intro hel hb)
          clear hel hb
          go_wp2_with fail
          go_ret
          exact ⟨false, rfl, fun _ => ⟨by have := HP.out.1; have := HN.out.1; omega, by have := HP.out.2.1; have := HN.out.2.1; omega, by have := HP.out.2.2; have := HN.out.2.2; omega, fun i hi => EP.out i (by rw [← HN.out.1]; exact hi), fun i hi => E.out.1 i (by rw [← HN.out.2.1]; exact hi)⟩, E.out.2⟩
end Go.Proofs.YtfnfgnhbnffagaaDoor

/-
Do pairs and replies rise?
-/
namespace Go.Proofs.YtfnfgnhbnffagaaDoor
open Go.RowKit
set_option linter.unusedVariables false
set_option linter.unusedSimpArgs false
set_option maxRecDepth 100000
structure Asc (ps : List Pr) (rs : List Rp) : Prop where
  p : ∀ i, i + 1 < ps.length → Op.bytesLess (ps.getD i default).key.toList (ps.getD (i + 1) default).key.toList = true
  r : ∀ i, i + 1 < rs.length → (rs.getD i default).client < (rs.getD (i + 1) default).client
def RisesEnd (ps : List Pr) (rs : List Rp) (w : World) (e : Ending) (w' : World) : Prop :=
  ∃ b, e = .returned (.bool b) ∧ (b = true → Asc ps rs) ∧ Below w.heap.size w w'
set_option maxHeartbeats 4000000 in
theorem Rises_any (v : Value) (ps : List Pr) (rs : List Rp) (ep : Int) (ms : List Mb) (w : World) (h : StS w v ps rs ep ms) (hp300 : ps.length ≤ 300) (hr100 : rs.length ≤ 100) : Calls Tryd.prog 15 #[v] w (RisesEnd ps rs w) := by
  obtain ⟨Ap, cp, Ar, cr, Am, cm, rfl, h1, h2, h3, h4, h5, h6, h7⟩ := h.ex
  obtain ⟨np, hnp⟩ : ∃ n, ps.length = n := ⟨_, rfl⟩
  obtain ⟨nr, hnr⟩ : ∃ n, rs.length = n := ⟨_, rfl⟩
  rw [hnp] at h1 h2 hp300
  rw [hnr] at h3 h4 hr100
  rw [hnp, hnr]
  have HN := Lib.hid (And.intro hnp hnr)
  clear h hnp hnr
  have hB : Below w.heap.size w (w.alloc (.cells #[.slice Ap np cp, .slice Ar nr cr, .int .i64 ep, .slice Am ms.length cm] 28)) := (Below.refl _ _).alloc (Nat.le_refl _) _
  have hA := heap_alloc_new w (.cells #[.slice Ap np cp, .slice Ar nr cr, .int .i64 ep, .slice Am ms.length cm] 28)
  have H := Lib.hid (And.intro h1 h3)
  have HB := Lib.hid (And.intro hB hA)
  have i1 : (np : Int) ≤ 300 := by omega
  have i2 : (nr : Int) ≤ 100 := by omega
  clear h1 h2 h3 h4 h5 h6 h7 hB hA hp300 hr100
  go_enter Tryd.func15, Tryd.ntmps15
  go_wp2_with fail
  go_loopw [8] (fun t wr => ∃ k : Nat, k ≤ np ∧ t = .int .i64 k ∧ (∀ i, i + 1 < k → Op.bytesLess (ps.getD i default).key.toList (ps.getD (i + 1) default).key.toList = true) ∧ Below w.heap.size w wr ∧ wr.heap[w.heap.size]? = some (.cells #[.slice Ap np cp, .slice Ar nr cr, .int .i64 ep, .slice Am ms.length cm] 28 (0, 0))) (fun t _ => np - (intOf t).toNat)
  case atStart => exact ⟨0, Nat.zero_le _, rfl, fun i hi => by omega, HB.out.1, HB.out.2⟩
  case round =>
    obtain ⟨k, hk, rfl, hel, hb, hA⟩ := hrel
    have a0 : wr.cell? ⟨w.heap.size, 0, none⟩ = some (.slice Ap np cp) := by rw [cell_of_row _ _ _ _ _ _ hA]; rfl
    by_cases hlt : k < np
    · have hk1 : (k : Int) < np := by omega
      have E := Lib.hid (And.intro hel (And.intro hb hA))
      clear hel hb hA
      by_cases hz : k = 0
      · have hzi : ¬ (0 : Int) < k := by omega
        have HZ := Lib.hid hz
        have hk0 : (0 : Int) ≤ k := by omega
        have hdz : decide (0 < k) = false := decide_eq_false (by omega)
        clear hz
        go_wp2_with fail
        go_quiet (fail)
        go_wp2_with fail
        go_roundw
        case rel => exact ⟨k + 1, by omega, by go_num, fun i hi => by have := HZ.out; omega, (E.out.2.1.trans (below_drewN (Below.refl _ _) nq |>.mono E.out.2.1.size)), E.out.2.2⟩
        case measure => simp [intOf]; omega
      · have hzi : (0 : Int) < k := by omega
        have hdz : decide (0 < k) = true := decide_eq_true (by omega)
        obtain ⟨j, hj⟩ : ∃ j, j = k - 1 := ⟨_, rfl⟩
        have tn : ((k : Int) - 1).toNat = j := by omega
        obtain ⟨b, off, rfl, hbb, hrow⟩ := H.out.1.mem (by omega)
        have c1 := (E.out.2.1.cell (p := ⟨b, off + j * 2, none⟩) hbb).trans (cell_of_rowAt (hrow j (by omega)) 0 _ (Pr.at0 _))
        have c2 := (E.out.2.1.cell (p := ⟨b, off + k * 2, none⟩) hbb).trans (cell_of_rowAt (hrow k hlt) 0 _ (Pr.at0 _))
        generalize hx : (ps.getD j default).key = x at c1
        generalize hy : (ps.getD k default).key = y at c2
        have HJ := Lib.hid (And.intro hj (And.intro hx hy))
        have hb1 : (0 : Int) ≤ (k : Int) - 1 := by omega
        have hb2 : (k : Int) - 1 < np := by omega
        clear hz hj hx hy hrow
        cases hl : Op.bytesLess x.toList y.toList
        · go_wp2_with fail
          go_quiet (fail)
          go_wp2_with fail
          go_ret
          exact ⟨false, rfl, (fun h => by cases h), (E.out.2.1.trans (below_drewN (Below.refl _ _) nq |>.mono E.out.2.1.size))⟩
        · go_wp2_with fail
          go_quiet (fail)
          go_wp2_with fail
          go_roundw
          case rel =>
            refine ⟨k + 1, by omega, by go_num, fun i hi => ?_, (E.out.2.1.trans (below_drewN (Below.refl _ _) nq |>.mono E.out.2.1.size)), E.out.2.2⟩
            rcases Nat.lt_or_ge (i + 1) k with c | c
            · exact E.out.1 i c
            · obtain rfl : i = j := by have := HJ.out.1; omega
              rw [show i + 1 = k by omega, HJ.out.2.1, HJ.out.2.2]; exact hl
          case measure => simp [intOf]; omega
    · have hkn : np = k := by omega
      subst hkn
      have a1 : wr.cell? ⟨w.heap.size, 1, none⟩ = some (.slice Ar nr cr) := by rw [cell_of_row _ _ _ _ _ _ hA]; rfl
      have EP := Lib.hid hel
      have E0 := Lib.hid (And.intro hb hA)
      clear hel hb hA hk hlt a0
      go_wp2_with fail
      clear a1
      go_loopw [33] (fun t wr => ∃ k : Nat, k ≤ nr ∧ t = .int .i64 k ∧ (∀ i, i + 1 < k → (rs.getD i default).client < (rs.getD (i + 1) default).client) ∧ Below w.heap.size w wr ∧ wr.heap[w.heap.size]? = some (.cells #[.slice Ap np cp, .slice Ar nr cr, .int .i64 ep, .slice Am ms.length cm] 28 (0, 0))) (fun t _ => nr - (intOf t).toNat)
      case atStart => exact ⟨0, Nat.zero_le _, rfl, fun i hi => by omega, E0.out.1, E0.out.2⟩
      case round =>
        clear E0
        obtain ⟨k, hk, rfl, hel, hb, hA⟩ := hrel
        have a0 : wr.cell? ⟨w.heap.size, 1, none⟩ = some (.slice Ar nr cr) := by rw [cell_of_row _ _ _ _ _ _ hA]; rfl
        by_cases hlt : k < nr
        · have hk1 : (k : Int) < nr := by omega
          have E := Lib.hid (And.intro hel (And.intro hb hA))
          clear hel hb hA
          by_cases hz : k = 0
          · have hzi : ¬ (0 : Int) < k := by omega
            have HZ := Lib.hid hz
            have hk0 : (0 : Int) ≤ k := by omega
            have hdz : decide (0 < k) = false := decide_eq_false (by omega)
            clear hz
            go_wp2_with fail
            go_quiet (fail)
            go_wp2_with fail
            go_roundw
            case rel => exact ⟨k + 1, by omega, by go_num, fun i hi => by have := HZ.out; omega, (E.out.2.1.trans (below_drewN (Below.refl _ _) nq |>.mono E.out.2.1.size)), E.out.2.2⟩
            case measure => simp [intOf]; omega
          · have hzi : (0 : Int) < k := by omega
            have hdz : decide (0 < k) = true := decide_eq_true (by omega)
            obtain ⟨j, hj⟩ : ∃ j, j = k - 1 := ⟨_, rfl⟩
            have tn : ((k : Int) - 1).toNat = j := by omega
            obtain ⟨b, off, rfl, hbb, hrow⟩ := H.out.2.mem (by omega)
            have c1 := (E.out.2.1.cell (p := ⟨b, off + j * 4, none⟩) hbb).trans (cell_of_rowAt (hrow j (by omega)) 0 _ (Rp.at0 _))
            have c2 := (E.out.2.1.cell (p := ⟨b, off + k * 4, none⟩) hbb).trans (cell_of_rowAt (hrow k hlt) 0 _ (Rp.at0 _))
            generalize hx : (rs.getD j default).client = x at c1
            generalize hy : (rs.getD k default).client = y at c2
            have HJ := Lib.hid (And.intro hj (And.intro hx hy))
            have hb1 : (0 : Int) ≤ (k : Int) - 1 := by omega
            have hb2 : (k : Int) - 1 < nr := by omega
            clear hz hj hx hy hrow
            by_cases hl : y ≤ x
            · have hdl : decide (y ≤ x) = true := decide_eq_true hl
              go_wp2_with fail
              go_quiet (fail)
              go_wp2_with fail
              go_ret
              exact ⟨false, rfl, (fun h => by cases h), (E.out.2.1.trans (below_drewN (Below.refl _ _) nq |>.mono E.out.2.1.size))⟩
            · have hdl : decide (y ≤ x) = false := decide_eq_false hl
              go_wp2_with fail
              go_quiet (fail)
              go_wp2_with fail
              go_roundw
              case rel =>
                refine ⟨k + 1, by omega, by go_num, fun i hi => ?_, (E.out.2.1.trans (below_drewN (Below.refl _ _) nq |>.mono E.out.2.1.size)), E.out.2.2⟩
                rcases Nat.lt_or_ge (i + 1) k with c | c
                · exact E.out.1 i c
                · obtain rfl : i = j := by have := HJ.out.1; omega
                  rw [show i + 1 = k by omega, HJ.out.2.1, HJ.out.2.2]; omega
              case measure => simp [intOf]; omega
        · have hkn : k = nr := by omega
          subst hkn
          have E := Lib.hid (And.intro hel hb)
          clear hel hb hA a0
          go_wp2_with fail
          go_ret
          exact ⟨true, rfl, fun _ => ⟨fun i hi => EP.out i (by rw [← HN.out.1]; exact hi), fun i hi => E.out.1 i (by rw [← HN.out.2]; exact hi)⟩, E.out.2⟩
end Go.Proofs.YtfnfgnhbnffagaaDoor

/-
Insert of a reply, of a pair: into nil, too; a registry of one's own with other rows.
-/
namespace Go.Proofs.YtfnfgnhbnffagaaDoor
open Go.RowKit
set_option linter.unusedVariables false
set_option linter.unusedSimpArgs false
set_option maxRecDepth 100000
@[go_sem ↓] theorem ap_MRi (ty : TypeId) (args : Array Value) : Builtin.append_ #[23, 23] ty args = apRow #[23, 23] ty args := rfl
@[go_sem ↓] theorem ap_MPi (ty : TypeId) (args : Array Value) : Builtin.append_ #[22, 22] ty args = apRow #[22, 22] ty args := rfl
set_option maxHeartbeats 2000000 in
theorem insert_nilR {B vb : Nat} {m : Rp} {w : World} (hm : m.ok) (hB : B ≤ w.heap.size) (hvb : w.heap[vb]? = some (.cells m.arr 49 (0, 0))) :
    Calls Tryd.prog 27 #[.slice none 0 0, .int .i64 0, .slice (some ⟨vb, 0, none⟩) 1 1] w (InsertedR [] m 0 0 B (.slice none 0 0) w) := by
  obtain ⟨i0, hi, hz0, hz1, hz2⟩ := info_parts infoMR
  obtain ⟨v', w1, hrun, hown1, hgrow, _, hat⟩ := run_append_own_at (P := Tryd.prog) w B 23 23 49 i0 (.agg Rp.zero.arr) 4 48 Tryd.underlying23 hi hz0 hz1 hz2 (Rp.size Rp.zero_ok) (by decide)
    (.slice none 0 0) 0 [] (World.ownsRow_nil _ _ _ _) ⟨vb, 0, none⟩ 1 1 m.cells (by rw [Rp.len hm])
    (fun j u hu => by rw [Addr.add_mid, Nat.zero_add, cell_of_row w vb j m.arr 49 (0, 0) hvb]; simpa [Rp.arr] using hu)
    (cells_onesR m) (by simp only [maxLen]; omega) (by omega) hB
  have hr : (apRow #[23, 23] 23 #[.slice none 0 0, .slice (some ⟨vb, 0, none⟩) 1 1]).run Tryd.prog w = .ok v' w1 := hrun
  have HF := Lib.hid (show InsertedR [] m 0 0 B (.slice none 0 0) w (.returned v') w1 from ⟨v', rfl, by
    rw [List.take_nil, List.drop_nil, List.nil_append, flatC_one]; exact hown1, hgrow, hat.imp id (fun h => ⟨_, h, Nat.le_refl _⟩)⟩)
  clear hrun hown1 hgrow hat hi hz0 hz1 hz2 hvb
  go_enter Tryd.func27, Tryd.ntmps27
  go_wp2_with fail
  go_ret
  exact HF.out
theorem insertR {B n i vb : Nat} {v : Value} {ms : List Rp} {m : Rp} {w : World} (h : w.ownsRow B 49 4 v n (flatC Rp.cells ms)) (hok : OkAllR ms) (hm : m.ok) (hi : i ≤ n) (hn : (n + 1) * 48 ≤ 140737488355328) (hB : B ≤ w.heap.size)
    (hvb : w.heap[vb]? = some (.cells m.arr 49 (0, 0))) (hne : v.ownBlock ≠ some vb) :
    Calls Tryd.prog 27 #[v, .int .i64 (i : Int), .slice (some ⟨vb, 0, none⟩) 1 1] w (InsertedR ms m i n B v w) := by
  rcases h.2 with ⟨rfl, rfl⟩ | ⟨g, cap, cur, hv, -⟩
  · obtain rfl : i = 0 := by omega
    have hl : ms = [] := by
      have := h.1
      rw [flatC_length hok.len] at this
      exact List.eq_nil_of_length_eq_zero (by omega)
    subst hl
    exact insert_nilR hm hB hvb
  · exact insert_anyR h hok hm hi hn hB hvb hne ⟨g, cap, hv⟩
set_option maxHeartbeats 2000000 in
theorem insert_nilP {B vb : Nat} {m : Pr} {w : World} (hm : m.ok) (hB : B ≤ w.heap.size) (hvb : w.heap[vb]? = some (.cells m.arr 75 (0, 0))) :
    Calls Tryd.prog 66 #[.slice none 0 0, .int .i64 0, .slice (some ⟨vb, 0, none⟩) 1 1] w (InsertedP [] m 0 0 B (.slice none 0 0) w) := by
  obtain ⟨i0, hi, hz0, hz1, hz2⟩ := info_parts infoMP
  obtain ⟨v', w1, hrun, hown1, hgrow, _, hat⟩ := run_append_own_at (P := Tryd.prog) w B 22 22 75 i0 (.agg Pr.zero.arr) 2 32 Tryd.underlying22 hi hz0 hz1 hz2 (Pr.size Pr.zero_ok) (by decide)
    (.slice none 0 0) 0 [] (World.ownsRow_nil _ _ _ _) ⟨vb, 0, none⟩ 1 1 m.cells (by rw [Pr.len hm])
    (fun j u hu => by rw [Addr.add_mid, Nat.zero_add, cell_of_row w vb j m.arr 75 (0, 0) hvb]; simpa [Pr.arr] using hu)
    (cells_onesP m) (by simp only [maxLen]; omega) (by omega) hB
  have hr : (apRow #[22, 22] 22 #[.slice none 0 0, .slice (some ⟨vb, 0, none⟩) 1 1]).run Tryd.prog w = .ok v' w1 := hrun
  have HF := Lib.hid (show InsertedP [] m 0 0 B (.slice none 0 0) w (.returned v') w1 from ⟨v', rfl, by
    rw [List.take_nil, List.drop_nil, List.nil_append, flatC_one]; exact hown1, hgrow, hat.imp id (fun h => ⟨_, h, Nat.le_refl _⟩)⟩)
  clear hrun hown1 hgrow hat hi hz0 hz1 hz2 hvb
  go_enter Tryd.func66, Tryd.ntmps66
  go_wp2_with fail
  go_ret
  exact HF.out
theorem insertP {B n i vb : Nat} {v : Value} {ms : List Pr} {m : Pr} {w : World} (h : w.ownsRow B 75 2 v n (flatC Pr.cells ms)) (hok : OkAllP ms) (hm : m.ok) (hi : i ≤ n) (hn : (n + 1) * 32 ≤ 140737488355328) (hB : B ≤ w.heap.size)
    (hvb : w.heap[vb]? = some (.cells m.arr 75 (0, 0))) (hne : v.ownBlock ≠ some vb) :
    Calls Tryd.prog 66 #[v, .int .i64 (i : Int), .slice (some ⟨vb, 0, none⟩) 1 1] w (InsertedP ms m i n B v w) := by
  rcases h.2 with ⟨rfl, rfl⟩ | ⟨g, cap, cur, hv, -⟩
  · obtain rfl : i = 0 := by omega
    have hl : ms = [] := by
      have := h.1
      rw [flatC_length hok.len] at this
      exact List.eq_nil_of_length_eq_zero (by omega)
    subst hl
    exact insert_nilP hm hB hvb
  · exact insert_anyP h hok hm hi hn hB hvb hne ⟨g, cap, hv⟩
/-- other replies, one of them new -/
theorem OwnS.newR {B O : Nat} {w w' : World} {vp vr vr' vm : Value} {ps : List Pr} {rs rs' : List Rp} {ms : List Mb} (h : OwnS B O w vp vr vm ps rs ms) {x : Rp} (hx : x.ok) (hO : O < w.heap.size)
    (ht : OT w B x.v x.vals) (hxb : ∀ k, x.v.ownBlock = some k → k ≠ O ∧ vp.ownBlock ≠ some k ∧ vr.ownBlock ≠ some k) (hmem : ∀ y ∈ rs', y ∈ rs ∨ y = x)
    (ho : w'.ownsRow B 49 4 vr' rs'.length (flatC Rp.cells rs')) (m : Mv (fun k => vr.ownBlock = some k) w w') (hb : vr'.ownBlock = vr.ownBlock ∨ ∃ g, vr'.ownBlock = some g ∧ w.heap.size ≤ g) : OwnS B O w' vp vr' vm ps rs' ms := by
  have hr : ∀ k, vr'.ownBlock = some k → vr.ownBlock = some k ∨ w.heap.size ≤ k := fun k hk => by
    rcases hb with hb | ⟨g, hb, hg⟩
    · exact .inl (hb ▸ hk)
    · rw [hk] at hb; cases hb; exact .inr hg
  refine ⟨own_mv h.p m (fun g hg c => (h.ap g hg).2.1 c), ho, own_mv h.m m (fun g hg c => (h.ar g c).2.1 hg), fun y hy => ?_, h.okp, fun y hy => ?_, h.okm, fun k hk => ⟨(h.ap k hk).1, fun c => ?_, (h.ap k hk).2.2.1, fun y hy => ?_⟩, fun k hk => ⟨?_, ?_, fun y hy => ?_⟩, h.am, fun y hy => ?_⟩
  · rcases hmem y hy with hy | hy
    · exact own_mv (h.t y hy) m (fun g hg c => (h.ar g c).2.2 y hy hg)
    · subst hy
      exact own_mv ht m (fun g hg c => (hxb g hg).2.2 c)
  · rcases hmem y hy with hy | hy
    · exact h.okr y hy
    · subst hy; exact hx
  · rcases hr k c with c | c
    · exact (h.ap k hk).2.1 c
    · have := (own_lt h.p hk).2; omega
  · rcases hmem y hy with hy | hy
    · exact (h.ap k hk).2.2.2 y hy
    · subst hy
      exact fun c => (hxb k c).2.1 hk
  · rcases hr k hk with c | c
    · exact (h.ar k c).1
    · omega
  · rcases hr k hk with c | c
    · exact (h.ar k c).2.1
    · intro e; have := (own_lt h.m e).2; omega
  · rcases hmem y hy with hy | hy
    · rcases hr k hk with c | c
      · exact (h.ar k c).2.2 y hy
      · intro e; have := (own_lt (h.t y hy) e).2; omega
    · subst hy
      intro e
      rcases hr k hk with c | c
      · exact (hxb k e).2.2 c
      · have := (own_lt ht e).2; omega
  · rcases hmem y hy with hy | hy
    · exact h.at_ y hy
    · subst hy
      exact fun c => (hxb O c).1 rfl
/-- other pairs -/
theorem OwnS.newP {B O : Nat} {w w' : World} {vp vp' vr vm : Value} {ps ps' : List Pr} {rs : List Rp} {ms : List Mb} (h : OwnS B O w vp vr vm ps rs ms) (hO : O < w.heap.size) (hok : OkAllP ps')
    (ho : w'.ownsRow B 75 2 vp' ps'.length (flatC Pr.cells ps')) (m : Mv (fun k => vp.ownBlock = some k) w w') (hb : vp'.ownBlock = vp.ownBlock ∨ ∃ g, vp'.ownBlock = some g ∧ w.heap.size ≤ g) : OwnS B O w' vp' vr vm ps' rs ms := by
  have hr : ∀ k, vp'.ownBlock = some k → vp.ownBlock = some k ∨ w.heap.size ≤ k := fun k hk => by
    rcases hb with hb | ⟨g, hb, hg⟩
    · exact .inl (hb ▸ hk)
    · rw [hk] at hb; cases hb; exact .inr hg
  refine ⟨ho, own_mv h.r m (fun g hg c => (h.ap g c).2.1 hg), own_mv h.m m (fun g hg c => (h.ap g c).2.2.1 hg), fun y hy => own_mv (h.t y hy) m (fun g hg c => (h.ap g c).2.2.2 y hy hg), hok, h.okr, h.okm, fun k hk => ?_, h.ar, h.am, h.at_⟩
  rcases hr k hk with c | c
  · exact h.ap k c
  · exact ⟨by omega, fun e => by have := (own_lt h.r e).2; omega, fun e => by have := (own_lt h.m e).2; omega, fun y hy e => by have := (own_lt (h.t y hy) e).2; omega⟩
end Go.Proofs.YtfnfgnhbnffagaaDoor
