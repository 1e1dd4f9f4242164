/-
More than is played? Do pairs and replies rise?
-/
import Derived.Test.YthaeofiplhbggaaDoorLast
namespace Go.Proofs.YthaeofiplhbggaaDoor
open Go.RowKit
set_option linter.unusedVariables false
set_option linter.unusedSimpArgs false
set_option maxRecDepth 100000
@[go_sem] theorem pr_sz (a b : Value) : SizeIs #[a, b] 2 := rfl
@[go_sem] theorem pr_ones (a b : ByteArray) : oneCells #[.string a, .string b] = true := by simp [oneCells, Value.oneCell']
@[go_sem] theorem cut2 (a b : Value) : cut #[a, b] 0 2 = some #[a, b] := cut_all _ _ rfl
/-- what is played -/
structure Fit (ps : List Pr) (rs : List Rp) (ms : List Mb) (most : Nat) : Prop where
  p : ps.length ≤ 300
  r : rs.length ≤ 100
  m : ms.length ≤ 20
  ps : ∀ i, i < ps.length → (ps.getD i default).key.size ≤ most ∧ (ps.getD i default).val.size ≤ most
  vs : ∀ i, i < rs.length → (rs.getD i default).vals.length ≤ 300 ∧ ∀ j, j < (rs.getD i default).vals.length → ((rs.getD i default).vals.getD j ByteArray.empty).size ≤ most
def GreatEnd (ps : List Pr) (rs : List Rp) (ms : List Mb) (most : Nat) (w : World) (e : Ending) (w' : World) : Prop :=
  ∃ b, e = .returned (.bool b) ∧ (b = false → Fit ps rs ms most) ∧ Below w.heap.size w w'
set_option maxHeartbeats 4000000 in
theorem Great_any (v : Value) (ps : List Pr) (rs : List Rp) (ep : Int) (ms : List Mb) (most : Nat) (w : World) (h : StS w v ps rs ep ms) (hm : most ≤ 100000) : Calls Tryd.prog 15 #[v, .int .i64 most] w (GreatEnd ps rs ms most w) := by
  obtain ⟨Ap, cp, Ar, cr, Am, cm, rfl, h1, h2, h3, h4, h5, h6, h7⟩ := h.ex
  obtain ⟨np, hnp⟩ : ∃ n, ps.length = n := ⟨_, rfl⟩
  obtain ⟨nr, hnr⟩ : ∃ n, rs.length = n := ⟨_, rfl⟩
  obtain ⟨nm, hnm⟩ : ∃ n, ms.length = n := ⟨_, rfl⟩
  have s1 := h1.small
  have s3 := h3.small
  have s5 := h5.small
  rw [hnp] at h1 h2 s1
  rw [hnr] at h3 h4 s3
  rw [hnm] at h5 h6 s5
  rw [hnp, hnr, hnm]
  have HN := Lib.hid (And.intro hnp (And.intro hnr hnm))
  clear h hnp hnr hnm
  have hB : Below w.heap.size w (w.alloc (.cells #[.slice Ap np cp, .slice Ar nr cr, .int .i64 ep, .slice Am nm cm] 28)) := (Below.refl _ _).alloc (Nat.le_refl _) _
  have bmost : (most : Int) ≤ 100000 := by omega
  have bmost0 : (0 : Int) ≤ most := by omega
  have H := Lib.hid (And.intro h1 (And.intro h3 h7))
  clear h1 h2 h3 h4 h5 h6 h7
  by_cases hp : 300 < np
  · have hpi : (300 : Int) < np := by omega
    go_enter Tryd.func15, Tryd.ntmps15
    go_wp2_with fail
    go_ret
    exact ⟨true, rfl, (fun h => by cases h), hB⟩
  by_cases hr : 100 < nr
  · have hpi : (100 : Int) < nr := by omega
    have hpj : ¬ (300 : Int) < np := by omega
    go_enter Tryd.func15, Tryd.ntmps15
    go_wp2_with fail
    go_ret
    exact ⟨true, rfl, (fun h => by cases h), hB⟩
  by_cases hq : 20 < nm
  · have hpi : (20 : Int) < nm := by omega
    have hpj : ¬ (100 : Int) < nr := by omega
    have hpk : ¬ (300 : Int) < np := by omega
    go_enter Tryd.func15, Tryd.ntmps15
    go_wp2_with fail
    go_ret
    exact ⟨true, rfl, (fun h => by cases h), hB⟩
  have i1 : (np : Int) ≤ 300 := by omega
  have i2 : (nr : Int) ≤ 100 := by omega
  have i3 : (nm : Int) ≤ 20 := by omega
  have d1 : decide ((300 : Int) < np) = false := decide_eq_false (by omega)
  have d2 : decide ((100 : Int) < nr) = false := decide_eq_false (by omega)
  have d3 : decide ((20 : Int) < nm) = false := decide_eq_false (by omega)
  have hA := heap_alloc_new w (.cells #[.slice Ap np cp, .slice Ar nr cr, .int .i64 ep, .slice Am nm cm] 28)
  have HB := Lib.hid (And.intro hB hA)
  have HP := Lib.hid (And.intro hp (And.intro hr hq))
  clear s1 s3 s5 hp hr hq hA hB
  go_enter Tryd.func15, Tryd.ntmps15
  go_wp2_with fail
  go_loopw [5, 32] (fun t5 t32 wr => ∃ k m : Nat, k ≤ np ∧ t32 = .int .i64 k ∧ t5 = .int .i64 m ∧ m ≤ most ∧ (∀ i, i < k → (ps.getD i default).key.size ≤ most ∧ (ps.getD i default).val.size ≤ most) ∧ Below w.heap.size w wr ∧ wr.heap[w.heap.size]? = some (.cells #[.slice Ap np cp, .slice Ar nr cr, .int .i64 ep, .slice Am nm cm] 28 (0, 0))) (fun _ t _ => np - (intOf t).toNat)
  case atStart => exact ⟨0, 0, Nat.zero_le _, rfl, rfl, Nat.zero_le _, fun i hi => by omega, HB.out.1, HB.out.2⟩
  case round =>
    obtain ⟨k, m, hk, rfl, rfl, hmm, hel, hb, hA⟩ := hrel
    have hk0 : (0 : Int) ≤ k := by omega
    have hm0 : (0 : Int) ≤ m := by omega
    have hm1 : (m : Int) ≤ most := by omega
    by_cases hlt : k < np
    · have hk1 : (k : Int) < np := by omega
      obtain ⟨b, off, rfl, hbb, hrow⟩ := H.out.1.mem (by omega)
      have hr := (rowAt_below hb hbb _ _).trans (hrow k hlt)
      have hok := H.out.1.okAt hlt
      generalize hx : ps.getD k default = x at hr hok
      obtain ⟨key, val⟩ := x
      replace hr : rowAt wr b (off + k * 2) 2 = some #[.string key, .string val] := hr
      have k1 : (key.size : Int) ≤ 140737488355328 := by have : key.size ≤ 140737488355328 := hok.k; omega
      have k2 : (val.size : Int) ≤ 140737488355328 := by have : val.size ≤ 140737488355328 := hok.v; omega
      have k3 : (0 : Int) ≤ key.size := by omega
      have k4 : (0 : Int) ≤ val.size := by omega
      have E := Lib.hid (And.intro hx (And.intro hel (And.intro hb hA)))
      clear hx hok hrow hel hb hA
      by_cases hbig : (most : Int) < m + 1 + key.size + val.size
      · go_wp2_with fail
        go_ret
        exact ⟨true, rfl, (fun h => by cases h), E.out.2.2.1.alloc E.out.2.2.1.size _⟩
      · have hsm : (m : Int) + 1 + key.size + val.size ≤ most := by omega
        go_wp2_with fail
        go_roundw
        case rel =>
          refine ⟨k + 1, m + 1 + key.size + val.size, by omega, by go_num, by go_num, by omega, fun i hi => ?_, E.out.2.2.1.alloc E.out.2.2.1.size _, ?_⟩
          · rcases Nat.lt_or_ge i k with c | c
            · exact E.out.2.1 i c
            · obtain rfl : i = k := by omega
              rw [E.out.1]
              exact ⟨by show key.size ≤ most; omega, by show val.size ≤ most; omega⟩
          · rw [Below.heap_alloc _ _ _ (Array.getElem?_eq_some_iff.1 E.out.2.2.2).1]; exact E.out.2.2.2
        case measure => simp [intOf]; omega
    · have hkn : k = np := by omega
      subst hkn
      have a1 : wr.cell? ⟨w.heap.size, 1, none⟩ = some (.slice Ar nr cr) := by rw [cell_of_row _ _ _ _ _ _ hA]; rfl
      have EP := Lib.hid hel
      have E0 := Lib.hid (And.intro hb hA)
      clear hel hb hA hk hlt hk0
      go_wp2_with fail
      clear a1
      go_loopw [5, 53] (fun t5 t53 wr => ∃ j m : Nat, j ≤ nr ∧ t53 = .int .i64 j ∧ t5 = .int .i64 m ∧ m ≤ most ∧ (∀ i, i < j → (rs.getD i default).vals.length ≤ 300 ∧ ∀ q, q < (rs.getD i default).vals.length → ((rs.getD i default).vals.getD q ByteArray.empty).size ≤ most) ∧ Below w.heap.size w wr) (fun _ t _ => nr - (intOf t).toNat)
      case atStart => exact ⟨0, m, Nat.zero_le _, rfl, rfl, hmm, fun i hi => by omega, E0.out.1⟩
      case round =>
        clear hmm hm0 hm1 E0
        rename_i m0 _ _ _ _
        obtain ⟨j, m, hj, rfl, rfl, hmm, hel, hb⟩ := hrel
        have hj0 : (0 : Int) ≤ j := by omega
        have hm0 : (0 : Int) ≤ m := by omega
        have hm1 : (m : Int) ≤ most := by omega
        by_cases hlt : j < nr
        · have hj1 : (j : Int) < nr := by omega
          obtain ⟨b, off, rfl, hbb, hrow⟩ := H.out.2.1.mem (by omega)
          have hr := (rowAt_below hb hbb _ _).trans (hrow j hlt)
          have hok := H.out.2.1.okAt hlt
          have hin : rs.getD j default ∈ rs := by
            have := HN.out.2.1
            rw [List.getD_eq_getElem?_getD, List.getElem?_eq_getElem (by omega)]
            exact List.getElem_mem _
          obtain ⟨ht, hs⟩ := H.out.2.2 _ hin
          generalize hx : rs.getD j default = x at hr hok ht hs
          obtain ⟨rc, rn, re, rA, rq, vals⟩ := x
          obtain ⟨q, hq⟩ : ∃ q, vals.length = q := ⟨_, rfl⟩
          replace hr : rowAt wr b (off + j * 4) 4 = some #[.int .i64 rc, .int .i64 rn, .int .i64 re, .slice rA vals.length rq] := hr
          rw [hq] at hr
          simp only [hq] at ht hs
          have hsz : ∀ i, i < q → ((vals.getD i ByteArray.empty).size : Int) ≤ 140737488355328 := fun i hi => by
            have : (vals.getD i ByteArray.empty).size ≤ 140737488355328 := hok.s _ (by rw [List.getD_eq_getElem?_getD, List.getElem?_eq_getElem (by omega)]; exact List.getElem_mem _)
            omega
          have ht5 := ht.below hb
          have E := Lib.hid (And.intro hx (And.intro hel (And.intro hb (And.intro hq (And.intro ht5 hsz)))))
          have hqs := ht.small
          clear hx hok hrow hel hb hq ht ht5 hs hsz hin
          by_cases hbig : 300 < q
          · have hqi : (300 : Int) < q := by omega
            clear hqs
            go_wp2_with fail
            go_ret
            exact ⟨true, rfl, (fun h => by cases h), E.out.2.2.1.alloc E.out.2.2.1.size _⟩
          · have hqi : (q : Int) ≤ 300 := by omega
            have hqd : decide ((300 : Int) < q) = false := decide_eq_false (by omega)
            have HQ := Lib.hid hbig
            clear hqs hbig
            go_wp2_with fail
            go_loopw [5, 64] (fun t5 t64 w2 => ∃ i m : Nat, i ≤ q ∧ t64 = .int .i64 i ∧ t5 = .int .i64 m ∧ m ≤ most ∧ (∀ p, p < i → (vals.getD p ByteArray.empty).size ≤ most) ∧ Below wr.heap.size wr w2) (fun _ t _ => q - (intOf t).toNat)
            case atStart => exact ⟨0, m, Nat.zero_le _, rfl, rfl, hmm, fun i hi => by omega, (Below.refl _ _).alloc (Nat.le_refl _) _⟩
            case round =>
              clear hmm hm0 hm1
              obtain ⟨i, m, hi, rfl, rfl, hmm, hel, hb⟩ := hrel
              have hi0 : (0 : Int) ≤ i := by omega
              have hm0 : (0 : Int) ≤ m := by omega
              have hm1 : (m : Int) ≤ most := by omega
              by_cases hlt2 : i < q
              · have hi1 : (i : Int) < q := by omega
                obtain ⟨b2, off2, rfl, hbb2, hc2⟩ := E.out.2.2.2.2.1.mem (by omega)
                have hc := (hb.cell (p := ⟨b2, off2 + i, none⟩) hbb2).trans (hc2 i hlt2)
                have hz := E.out.2.2.2.2.2 i hlt2
                generalize hv : vals.getD i ByteArray.empty = v at hc hz
                have hz0 : (0 : Int) ≤ v.size := by omega
                have E2 := Lib.hid (And.intro hv (And.intro hel hb))
                clear hv hel hb hc2 hr
                by_cases hbig : (most : Int) < m + 1 + v.size
                · go_wp2_with fail
                  go_ret
                  exact ⟨true, rfl, (fun h => by cases h), E.out.2.2.1.trans (E2.out.2.2.mono E.out.2.2.1.size)⟩
                · have hsm : (m : Int) + 1 + v.size ≤ most := by omega
                  go_wp2_with fail
                  go_roundw
                  case rel =>
                    refine ⟨i + 1, m + 1 + v.size, by omega, by go_num, by go_num, by omega, fun p hp => ?_, E2.out.2.2⟩
                    rcases Nat.lt_or_ge p i with c | c
                    · exact E2.out.2.1 p c
                    · obtain rfl : p = i := by omega
                      rw [E2.out.1]; omega
                  case measure => simp [intOf]; omega
              · have hiq : i = q := by omega
                subst hiq
                have E2 := Lib.hid (And.intro hel hb)
                clear hel hb hr
                go_wp2_with fail
                go_roundw
                case rel =>
                  refine ⟨j + 1, m, by omega, by go_num, rfl, hmm, fun p hp => ?_, E.out.2.2.1.trans (E2.out.2.mono E.out.2.2.1.size)⟩
                  rcases Nat.lt_or_ge p j with c | c
                  · exact E.out.2.1 p c
                  · obtain rfl : p = j := by omega
                    rw [E.out.1]
                    exact ⟨by show vals.length ≤ 300; have := E.out.2.2.2.1; have := HQ.out; omega, fun x hx => E2.out.1 x (by rw [← E.out.2.2.2.1]; exact hx)⟩
                case measure => simp [intOf]; omega
        · have hjn : j = nr := by omega
          subst hjn
          have E := Lib.hid (And.intro hel hb)
          clear hel hb
          go_wp2_with fail
          go_ret
          exact ⟨false, rfl, fun _ => ⟨by have := HP.out.1; have := HN.out.1; omega, by have := HP.out.2.1; have := HN.out.2.1; omega, by have := HP.out.2.2; have := HN.out.2.2; omega, fun i hi => EP.out i (by rw [← HN.out.1]; exact hi), fun i hi => E.out.1 i (by rw [← HN.out.2.1]; exact hi)⟩, E.out.2⟩
end Go.Proofs.YthaeofiplhbggaaDoor
