/-
ConfigSteps: what a change answers can be, its epoch is one greater, and all members but one are as they were.
-/
import Derived.Test.YtmiaffgjfpjhfaaKeys
namespace Go.Proofs.Ytmiaffgjfpjhfaa
open Go.RowKit
set_option linter.unusedVariables false
set_option linter.unusedSimpArgs false

/-- how many of the first k members are not among others -/
def lacks (L : List Mb) (m : Mb) : Bool := !decide (m ∈ L)
def cnt (L ms : List Mb) (k : Nat) : Nat := (ms.take k).countP (lacks L)
theorem cnt_succ {L ms : List Mb} {n k : Nat} (hn : ms.length = n) (h : k < n) : cnt L ms (k + 1) = cnt L ms k + if lacks L (ms.getD k default) then 1 else 0 := by
  unfold cnt
  rw [getD_at (by omega), List.take_succ_eq_append_getElem (by omega), List.countP_append, List.countP_singleton]
theorem cnt_yes {L ms : List Mb} {n k : Nat} (hn : ms.length = n) (h : k < n) {m : Mb} (hm : ms.getD k default = m) (hl : m ∉ L) : cnt L ms (k + 1) = cnt L ms k + 1 := by
  rw [cnt_succ hn h, hm, if_pos (by unfold lacks; simpa using hl)]
theorem cnt_no {L ms : List Mb} {n k : Nat} (hn : ms.length = n) (h : k < n) {m : Mb} (hm : ms.getD k default = m) (hl : m ∈ L) : cnt L ms (k + 1) = cnt L ms k := by
  rw [cnt_succ hn h, hm, if_neg (by unfold lacks; simpa using hl)]; rfl
theorem cnt_zero (L ms : List Mb) : cnt L ms 0 = 0 := rfl
theorem cnt_le (L ms : List Mb) (k : Nat) : cnt L ms k ≤ k := by
  unfold cnt
  exact Nat.le_trans List.countP_le_length (by simp; omega)
theorem cnt_all {L ms : List Mb} {n : Nat} (hn : ms.length = n) : cnt L ms n = ms.countP (lacks L) := by unfold cnt; rw [List.take_of_length_le (by omega)]

theorem up_nodup {l : List Mb} (h : Up l) : l.Nodup := by
  unfold Up at h
  exact h.imp fun hab e => by rw [e] at hab; omega
theorem len_le {l l' : List Mb} : l.Nodup → (∀ x ∈ l, x ∈ l') → l.length ≤ l'.length := by
  induction l generalizing l' with
  | nil => intro _ _; simp
  | cons a l ih =>
    intro h hs
    rw [List.nodup_cons] at h
    have ha : a ∈ l' := hs a (by simp)
    have h1 := ih (l' := l'.erase a) h.2 fun x hx => by
      have hne : x ≠ a := fun e => h.1 (e ▸ hx)
      exact (List.mem_erase_of_ne hne).2 (hs x (by simp [hx]))
    rw [List.length_erase_of_mem ha] at h1
    have : 0 < l'.length := List.length_pos_of_mem ha
    simp only [List.length_cons]; omega
/-- of two lists without repeats: what they share is as much in both -/
theorem share {l l' : List Mb} (h : l.Nodup) (h' : l'.Nodup) : (l.length : Int) - l'.length = (l.countP (lacks l') : Int) - l'.countP (lacks l) := by
  have e := List.length_eq_countP_add_countP (lacks l') (l := l)
  have e' := List.length_eq_countP_add_countP (lacks l) (l := l')
  have key : ∀ {a b : List Mb}, a.Nodup → b.Nodup → a.countP (fun x => decide ¬ lacks b x = true) ≤ b.countP (fun x => decide ¬ lacks a x = true) := by
    intro a b ha hb
    rw [List.countP_eq_length_filter, List.countP_eq_length_filter]
    refine len_le (ha.sublist List.filter_sublist) fun x hx => ?_
    rw [List.mem_filter] at hx ⊢
    unfold lacks at hx ⊢
    simp only [decide_not, Bool.not_eq_true', Bool.not_not, decide_eq_true_eq, Bool.not_eq_eq_eq_not, Bool.not_true, decide_eq_false_iff_not, Decidable.not_not] at hx ⊢
    exact ⟨hx.2, hx.1⟩
  have k1 := key h h'
  have k2 := key h' h
  omega
theorem one_le {l L : List Mb} (h : l.Nodup) {a : Mb} (hs : ∀ x ∈ l, x ∈ L ∨ x = a) : l.countP (lacks L) ≤ 1 := by
  rw [List.countP_eq_length_filter]
  refine len_le (l' := [a]) (h.sublist List.filter_sublist) fun x hx => ?_
  rw [List.mem_filter] at hx
  unfold lacks at hx
  rcases hs x hx.1 with h1 | h1
  · exact absurd h1 (by simpa using hx.2)
  · simp [h1]
theorem mem_at {l : List Mb} {i : Nat} (h : i < l.length) : l.getD i default ∈ l := by rw [getD_at h]; exact List.getElem_mem _
theorem mem_erase_or {l : List Mb} {i : Nat} {x : Mb} (hx : x ∈ l) (hi : i < l.length) : x ∈ l.eraseIdx i ∨ x = l.getD i default := by
  obtain ⟨j, hj, rfl⟩ := List.mem_iff_getElem.1 hx
  by_cases e : j = i
  · subst e; right; rw [getD_at hj]
  · left
    rw [List.mem_eraseIdx_iff_getElem]
    exact ⟨j, hj, e, rfl⟩
/-- what a change that is OK makes -/
structure Changed (ep : Int) (ms L : List Mb) : Prop where
  upA : Up ms
  upB : Up L
  good : goodB (ep + 1) L = true
  gone : ms.countP (lacks L) ≤ 1
  come : L.countP (lacks ms) ≤ 1
theorem good_insert {ep ep' : Int} {l l0 : List Mb} {m : Mb} (h0 : goodB ep l0 = true) (he0 : 0 ≤ ep') (he1 : ep' ≤ 1073741824) (hu : Up l) (hs : ∀ x ∈ l, x ∈ l0) (hl : l.length + 1 ≤ 10) (hr : rightB m = true) (hn : hasB l m.id = false) : goodB ep' (ins l m) = true := by
  obtain ⟨a, b, c⟩ := good_iff.1 h0
  refine good_iff.2 ⟨⟨he0, he1, ?_, ?_⟩, ?_, up_ins hu hn⟩
  · rw [ins_length]; omega
  · rw [ins_length]; omega
  · intro x hx
    rcases mem_ins.1 hx with rfl | hx
    · exact hr
    · exact b x (hs x hx)
theorem changed {ep : Int} {ms : List Mb} {x : Chg} (h : appE ep ms x = 0) : Changed ep ms (appR ep ms x) := by
  obtain ⟨⟨hg, k1, k4, he⟩, hri, hhas, hno, hten, hone⟩ := appE_zero h
  obtain ⟨⟨a0, a1, a2, a3⟩, hall, hu⟩ := good_iff.1 hg
  have hep0 : 0 ≤ ep + 1 := by omega
  have hep1 : ep + 1 ≤ 1073741824 := by omega
  have hcase : x.kind = 1 ∨ x.kind = 2 ∨ x.kind = 3 ∨ x.kind = 4 := by omega
  have hsub : ∀ i, ∀ y ∈ ms.eraseIdx i, y ∈ ms := fun i y hy => List.mem_of_mem_eraseIdx hy
  have hue : ∀ i, Up (ms.eraseIdx i) := fun i => hu.sublist (List.eraseIdx_sublist ..)
  rcases hcase with k | k | k | k
  · have hm : memOf x = ⟨x.id, x.key⟩ := by unfold memOf; rw [k]; rfl
    have hri := hri (by omega); have hno := hno (.inl k); have hten := hten k
    rw [hm] at hri hno
    rw [appR_add h k]
    refine ⟨hu, up_ins hu hno, good_insert hg hep0 hep1 hu (fun _ h => h) (by omega) hri hno, one_le (up_nodup hu) (a := default) fun y hy => .inl (mem_ins.2 (.inr hy)), one_le (up_nodup (up_ins hu hno)) (a := ⟨x.id, x.key⟩) fun y hy => (mem_ins.1 hy).symm⟩
  · have hhas := hhas (by omega); have hone := hone k
    obtain ⟨hp, -, -⟩ := posI_of hu hhas
    rw [appR_del h k]
    exact ⟨hu, hue _, good_erase hg _ hone hep0 hep1, one_le (up_nodup hu) fun y hy => mem_erase_or hy hp, one_le (up_nodup (hue _)) (a := default) fun y hy => .inl (hsub _ y hy)⟩
  · have hm : memOf x = ⟨x.nw, x.key⟩ := by unfold memOf; rw [k]; rfl
    have hri := hri (by omega); have hno := hno (.inr k); have hhas := hhas (by omega)
    rw [hm] at hri hno
    obtain ⟨hp, -, -⟩ := posI_of hu hhas
    have hno2 := hasB_erase hno (posI ms x.id)
    have hl : (ms.eraseIdx (posI ms x.id)).length = ms.length - 1 := by rw [List.length_eraseIdx, if_pos hp]
    rw [appR_rep h k]
    refine ⟨hu, up_ins (hue _) hno2, good_insert hg hep0 hep1 (hue _) (hsub _) (by omega) hri hno2, one_le (up_nodup hu) (a := ms.getD (posI ms x.id) default) fun y hy => ?_, one_le (up_nodup (up_ins (hue _) hno2)) (a := ⟨x.nw, x.key⟩) fun y hy => ?_⟩
    · exact (mem_erase_or hy hp).imp (fun h => mem_ins.2 (.inr h)) id
    · exact (mem_ins.1 hy).symm.imp (hsub _ y) id
  · have hm : memOf x = ⟨x.id, x.key⟩ := by unfold memOf; rw [k]; rfl
    have hri := hri (by omega); have hhas := hhas (by omega)
    rw [hm] at hri
    obtain ⟨hp, hid, hoth⟩ := posI_of hu hhas
    have hl : (ms.eraseIdx (posI ms x.id)).length = ms.length - 1 := by rw [List.length_eraseIdx, if_pos hp]
    have hno2 : hasB (ms.eraseIdx (posI ms x.id)) x.id = false := hasB_no.2 fun y hy e => by
      rw [List.mem_eraseIdx_iff_getElem] at hy
      obtain ⟨j, hj, hne, rfl⟩ := hy
      exact hoth j hj hne (by rw [getD_at hj]; exact e)
    rw [appR_rot h k]
    refine ⟨hu, up_ins (hue _) hno2, good_insert hg hep0 hep1 (hue _) (hsub _) (by omega) hri hno2, one_le (up_nodup hu) (a := ms.getD (posI ms x.id) default) fun y hy => ?_, one_le (up_nodup (up_ins (hue _) hno2)) (a := ⟨x.id, x.key⟩) fun y hy => ?_⟩
    · exact (mem_erase_or hy hp).imp (fun h => mem_ins.2 (.inr h)) id
    · exact (mem_ins.1 hy).symm.imp (hsub _ y) id
/-- where a member is found, or not -/
theorem out_of {l : List Mb} {m : Mb} (h : ∀ j, j < l.length → (l.getD j default).id ≠ m.id) : m ∉ l := by
  intro hm
  obtain ⟨j, hj, rfl⟩ := List.mem_iff_getElem.1 hm
  exact h j hj (by rw [getD_at hj])
theorem in_of {l : List Mb} (hu : Up l) {m : Mb} {j : Nat} (hj : j < l.length) (hid : (l.getD j default).id = m.id) : m ∈ l ↔ l.getD j default = m := by
  constructor
  · intro hm
    obtain ⟨i, hi, rfl⟩ := List.mem_iff_getElem.1 hm
    rcases Nat.lt_trichotomy i j with c | c | c
    · have := up_lt hu c hj; rw [getD_at hi] at this; omega
    · subst c; rw [getD_at hj]
    · have := up_lt hu c hi; rw [getD_at hi] at this; omega
  · rintro rfl; exact mem_at hj

end Go.Proofs.Ytmiaffgjfpjhfaa
