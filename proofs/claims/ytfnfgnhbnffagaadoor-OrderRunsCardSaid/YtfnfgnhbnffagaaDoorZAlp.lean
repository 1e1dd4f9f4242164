/-
What the document tells: the plain law.
-/
import Derived.Test.YtfnfgnhbnffagaaDoorZCk
namespace Go.Proofs.YtfnfgnhbnffagaaDoor
open Go.RowKit
set_option linter.unusedVariables false
set_option linter.unusedSimpArgs false
set_option maxRecDepth 100000
def bA : ByteArray := ⟨#[97]⟩
def qPut : Rq := ⟨1, 1, ⟨2, bA, ByteArray.empty, ByteArray.empty, Chg.zero⟩⟩
def qGet : Rq := ⟨2, 1, ⟨1, bA, ByteArray.empty, ByteArray.empty, Chg.zero⟩⟩
def ePut : Ev := ⟨qPut, ⟨1, 1, 0, none, 0, []⟩, 0, 1⟩
def eGet : Ev := ⟨qGet, ⟨2, 1, 7, none, 0, []⟩, 2, 3⟩
def m1 : Mb := ⟨1, Kb.zero⟩
def s0 : Reg := ⟨[], [], 0, [m1]⟩
def s1 : Reg := ⟨[⟨bA, ByteArray.empty⟩], [(1, 1, 0, [])], 0, [m1]⟩
theorem good_put : rqGood qPut = true := by unfold rqGood; exact decide_eq_true (by decide)
theorem good_get : rqGood qGet = true := by unfold rqGood; exact decide_eq_true (by decide)
theorem lastI_nil (c : Int) : lastI [] c = 0 := by unfold lastI; exact halve_end _ _
theorem lastB_nil (c : Int) : lastB [] c = false := by unfold lastB; simp
theorem pairI_nil (k : ByteArray) : pairI [] k = 0 := by unfold pairI; exact halve_end _ _
theorem pairB_nil (k : ByteArray) : pairB [] k = false := by unfold pairB; simp
theorem ap_put : applyP s0 qPut = (s1, (1, 1, 0, [])) := by
  have h1 : doesP s0.ps s0.ep s0.ms qPut.op = (0, [], [⟨bA, ByteArray.empty⟩], 0, [m1]) := by
    unfold doesP
    rw [if_neg (by decide), if_pos (by decide), if_pos (.inr (by decide))]
    show (0, [], putP [] bA ByteArray.empty, 0, [m1]) = _
    unfold putP
    rw [pairB_nil, pairI_nil]
    rfl
  unfold applyP
  rw [if_neg (by rw [good_put]; decide)]
  simp only [h1]
  rw [show s0.ds.map Rd.p = [] from rfl, lastB_nil, lastI_nil]
  rfl
theorem pairI_one : pairI [⟨bA, ByteArray.empty⟩] bA = 0 := by
  unfold pairI
  have h : aheadP [⟨bA, ByteArray.empty⟩] bA ((0 + 1) / 2) = false := by
    unfold aheadP
    rw [ByteArray.toList_eq, ByteArray.toList_eq]
    rfl
  rw [show ([⟨bA, ByteArray.empty⟩] : List Pr).length = 1 from rfl, halve_ge (by omega) h]
  exact halve_end _ _
theorem pairB_one : pairB [⟨bA, ByteArray.empty⟩] bA = true := by
  unfold pairB
  rw [pairI_one]
  have h : cmpS bA bA = 0 := by
    unfold cmpS
    rw [ByteArray.toList_eq]
    rfl
  show (decide (0 < 1) && (cmpS bA bA == 0)) = true
  rw [h]
  rfl
theorem ap_get : ∃ s, applyP s1 qGet = (s, (2, 1, 0, [ByteArray.empty])) := by
  have h1 : doesP s1.ps s1.ep s1.ms qGet.op = (0, [ByteArray.empty], s1.ps, 0, [m1]) := by
    unfold doesP
    rw [if_pos (by decide)]
    show (if pairB [⟨bA, ByteArray.empty⟩] bA = true then _ else _) = _
    rw [pairB_one, if_pos rfl]
    show (0, [(([⟨bA, ByteArray.empty⟩] : List Pr).getD (pairI [⟨bA, ByteArray.empty⟩] bA) default).val], _, _, _) = _
    rw [pairI_one]
    rfl
  unfold applyP
  rw [if_neg (by rw [good_get]; decide)]
  simp only [h1]
  have hl : lastB (s1.ds.map Rd.p) qGet.client = false := by
    have e : s1.ds.map Rd.p = [⟨1, 1, 0, none, 0, []⟩] := rfl
    rw [e]
    have hi : lastI [⟨1, 1, 0, none, 0, []⟩] qGet.client = 1 := by
      unfold lastI
      have h : aheadR [⟨1, 1, 0, none, 0, []⟩] qGet.client ((0 + 1) / 2) = true := by unfold aheadR; refine decide_eq_true ?_; show wrap64 (1 - 2) < 0; unfold wrap64; omega
      rw [show ([⟨1, 1, 0, none, 0, []⟩] : List Rp).length = 1 from rfl, halve_lt (by omega) h]
      exact halve_end _ _
    unfold lastB
    rw [hi]
    rfl
  rw [hl]
  exact ⟨_, rfl⟩
theorem same_no : sameR (2, 1, 0, [ByteArray.empty]) (2, 1, 7, []) = false := by
  unfold sameR
  rw [beq_eq_false_iff_ne]
  intro h
  have := congrArg List.length h
  unfold replyL at this
  rw [List.length_append, List.length_append, nums8_len, nums8_len] at this
  revert this
  decide
theorem linear_one : searchP 1 s0 [ePut] = true := by
  unfold searchP
  rw [Bool.or_eq_true]
  right
  refine List.any_eq_true.2 ⟨0, by simp, ?_⟩
  unfold stepP
  show (!(([ePut].any fun o => aheadE o ePut)) && (decide (ePut.done < 0) || sameR (applyP s0 qPut).2 ePut.r.d) && searchP 0 (applyP s0 qPut).1 []) = true
  rw [ap_put]
  have h1 : ([ePut].any fun o => aheadE o ePut) = false := by decide
  rw [h1, show ePut.r.d = (1, 1, 0, []) from rfl, sameR_self]
  rfl
theorem linear_two : searchP 2 s0 [ePut, eGet] = false := by
  unfold searchP
  have h0 : (!([ePut, eGet].any fun m => decide (0 ≤ m.done))) = false := by decide
  rw [h0, Bool.false_or, show [ePut, eGet].length = 2 from rfl]
  have hb : stepP (searchP 1) s0 [ePut, eGet] 1 = false := by
    unfold stepP
    have h1 : ([ePut, eGet].any fun o => aheadE o ([ePut, eGet].getD 1 default)) = true := by decide
    rw [h1]; rfl
  have ha : stepP (searchP 1) s0 [ePut, eGet] 0 = false := by
    have h2 : searchP 1 s1 [eGet] = false := by
      unfold searchP
      have h0 : (!([eGet].any fun m => decide (0 ≤ m.done))) = false := by decide
      rw [h0, Bool.false_or, show [eGet].length = 1 from rfl]
      have hc : stepP (searchP 0) s1 [eGet] 0 = false := by
        unfold stepP
        show (_ && (decide (eGet.done < 0) || sameR (applyP s1 qGet).2 eGet.r.d) && _) = false
        obtain ⟨s, hs⟩ := ap_get
        rw [hs, show eGet.r.d = (2, 1, 7, []) from rfl, same_no, show decide (eGet.done < 0) = false by decide, Bool.or_false, Bool.and_false, Bool.false_and]
      rw [show List.range 1 = [0] from rfl]
      simp [hc]
    unfold stepP
    show (_ && _ && searchP 1 (applyP s0 qPut).1 [eGet]) = false
    rw [ap_put, h2, Bool.and_false]
  rw [show List.range 2 = [0, 1] from rfl]
  simp [ha, hb]
theorem fresh_put : freshP s0 qPut = true := by
  unfold freshP
  rw [good_put, show s0.ds.map Rd.p = [] from rfl, lastB_nil]
  rfl
theorem log_two : ∃ F, (logK s0 [qPut, qGet] 2).2 = F ∧ F 1 1 = some (0, (1, 1, 0, [])) ∧ F 2 1 = some (1, (2, 1, 0, [ByteArray.empty])) := by
  refine ⟨_, rfl, ?_⟩
  have h1 : logK s0 [qPut, qGet] 1 = (s1, setP (fun _ _ => none) 1 1 (0, (1, 1, 0, []))) := by
    show ((applyP s0 qPut).1, if freshP s0 qPut = true then setP (fun _ _ => none) 1 1 (0, (applyP s0 qPut).2) else fun _ _ => none) = _
    rw [fresh_put, ap_put]
    rfl
  obtain ⟨s, hs⟩ := ap_get
  have hf : freshP s1 qGet = true := by
    unfold freshP
    rw [good_get]
    have hl : lastB (s1.ds.map Rd.p) qGet.client = false := by
      have e : s1.ds.map Rd.p = [⟨1, 1, 0, none, 0, []⟩] := rfl
      rw [e]
      have hi : lastI [⟨1, 1, 0, none, 0, []⟩] qGet.client = 1 := by
        unfold lastI
        have h : aheadR [⟨1, 1, 0, none, 0, []⟩] qGet.client ((0 + 1) / 2) = true := by unfold aheadR; refine decide_eq_true ?_; show wrap64 (1 - 2) < 0; unfold wrap64; omega
        rw [show ([⟨1, 1, 0, none, 0, []⟩] : List Rp).length = 1 from rfl, halve_lt (by omega) h]
        exact halve_end _ _
      unfold lastB
      rw [hi]
      rfl
    rw [hl]
    rfl
  have h2 : (logK s0 [qPut, qGet] 2).2 = setP (setP (fun _ _ => none) 1 1 (0, (1, 1, 0, []))) 2 1 (1, (2, 1, 0, [ByteArray.empty])) := by
    show (if freshP (logK s0 [qPut, qGet] 1).1 qGet = true then setP (logK s0 [qPut, qGet] 1).2 2 1 (1, (applyP (logK s0 [qPut, qGet] 1).1 qGet).2) else (logK s0 [qPut, qGet] 1).2) = _
    rw [h1]
    show (if freshP s1 qGet = true then setP (setP (fun _ _ => none) 1 1 (0, (1, 1, 0, []))) 2 1 (1, (applyP s1 qGet).2) else _) = _
    rw [hf, if_pos rfl, hs]
  rw [h2]
  exact ⟨rfl, rfl⟩
theorem check_two : checkP s0 [qPut, qGet] [ePut, eGet] = 9 := by
  obtain ⟨F, hF, h1, h2⟩ := log_two
  unfold checkP
  rw [show (logK s0 [qPut, qGet] [qPut, qGet].length).2 = F from hF]
  have hp : evFail [qPut, qGet] F ePut = 0 := by
    unfold evFail
    rw [if_neg (by decide), show F ePut.q.client ePut.q.num = some (0, (1, 1, 0, [])) from h1]
    show (if (!rqEq qPut qPut || !sameR (1, 1, 0, []) (1, 1, 0, [])) = true then (9 : Int) else 0) = 0
    rw [rqEq_self, sameR_self]
    rfl
  have hg : evFail [qPut, qGet] F eGet = 9 := by
    unfold evFail
    rw [if_neg (by decide), show F eGet.q.client eGet.q.num = some (1, (2, 1, 0, [ByteArray.empty])) from h2]
    show (if (!rqEq qGet qGet || !sameR (2, 1, 0, [ByteArray.empty]) (2, 1, 7, [])) = true then (9 : Int) else 0) = 9
    rw [rqEq_self, same_no]
    rfl
  rw [List.map_cons, hp, List.map_cons, hg]
  rfl
end Go.Proofs.YtfnfgnhbnffagaaDoor
