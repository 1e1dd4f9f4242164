/-
The plain laws: over rising pairs and members the document's answer is the program's.
-/
import Derived.Test.YtfnfgnhbnffagaaDoorZRd
namespace Go.Proofs.YtfnfgnhbnffagaaDoor
open Go.RowKit
set_option linter.unusedVariables false
set_option linter.unusedSimpArgs false
set_option maxRecDepth 100000
theorem bl_irrefl : ∀ a : List UInt8, Op.bytesLess a a = false
  | [] => by simp [Op.bytesLess]
  | a :: x => by simp [Op.bytesLess, bl_irrefl x]
theorem bl_trans : ∀ a b c : List UInt8, Op.bytesLess a b = true → Op.bytesLess b c = true → Op.bytesLess a c = true
  | _, [], _, h, _ => by simp [Op.bytesLess] at h
  | _, _ :: _, [], _, h => by simp [Op.bytesLess] at h
  | [], _ :: _, _ :: _, _, _ => by simp [Op.bytesLess]
  | a :: x, b :: y, c :: z, h1, h2 => by
    simp only [Op.bytesLess, Bool.or_eq_true, Bool.and_eq_true, decide_eq_true_eq, beq_iff_eq, UInt8.lt_iff_toNat_lt] at h1 h2 ⊢
    rcases h1 with h1 | ⟨rfl, h1⟩
    · rcases h2 with h2 | ⟨rfl, h2⟩
      · exact .inl (by omega)
      · exact .inl h1
    · rcases h2 with h2 | ⟨rfl, h2⟩
      · exact .inl h2
      · exact .inr ⟨rfl, bl_trans x y z h1 h2⟩
theorem bl_total : ∀ a b : List UInt8, Op.bytesLess a b = false → (a == b) = false → Op.bytesLess b a = true
  | [], [], _, h => by simp at h
  | [], _ :: _, h, _ => by simp [Op.bytesLess] at h
  | _ :: _, [], _, _ => by simp [Op.bytesLess]
  | a :: x, b :: y, h1, h2 => by
    simp only [Op.bytesLess, Bool.or_eq_false_iff, Bool.and_eq_false_iff, decide_eq_false_iff_not, beq_eq_false_iff_ne, UInt8.lt_iff_toNat_lt] at h1
    simp only [Op.bytesLess, Bool.or_eq_true, Bool.and_eq_true, decide_eq_true_eq, beq_iff_eq, UInt8.lt_iff_toNat_lt]
    by_cases e : a = b
    · subst e
      right
      refine ⟨rfl, bl_total x y ?_ ?_⟩
      · rcases h1.2 with h | h
        · exact absurd rfl h
        · exact h
      · rw [beq_eq_false_iff_ne] at h2 ⊢
        intro c; exact h2 (by rw [c])
    · left
      have : a.toNat ≠ b.toNat := fun c => e (UInt8.toNat_inj.1 c)
      have := h1.1
      omega
theorem bl_asymm {a b : List UInt8} (h : Op.bytesLess a b = true) : Op.bytesLess b a = false := by
  cases hb : Op.bytesLess b a with
  | false => rfl
  | true => have := bl_trans _ _ _ h hb; rw [bl_irrefl] at this; cases this
theorem bl_ne {a b : List UInt8} (h : Op.bytesLess a b = true) : (a == b) = false := by
  rw [beq_eq_false_iff_ne]
  rintro rfl
  rw [bl_irrefl] at h; cases h
theorem bl_ne' {a b : List UInt8} (h : Op.bytesLess a b = true) : (b == a) = false := by
  have := bl_ne h
  rw [beq_eq_false_iff_ne] at this ⊢
  exact fun c => this c.symm
abbrev lessP (p q : Pr) : Prop := Op.bytesLess p.key.toList q.key.toList = true
abbrev SrtP (ps : List Pr) : Prop := ps.Pairwise lessP
theorem srt_of : ∀ {ps : List Pr}, (∀ i, i + 1 < ps.length → Op.bytesLess (ps.getD i default).key.toList (ps.getD (i + 1) default).key.toList = true) → SrtP ps
  | [], _ => List.Pairwise.nil
  | [p], _ => List.pairwise_singleton _ _
  | p :: q :: t, h => by
    have ih : SrtP (q :: t) := srt_of (ps := q :: t) (fun i hi => by have := h (i + 1) (by simp at hi ⊢; omega); simpa using this)
    have h0 : lessP p q := by have := h 0 (by simp); simpa using this
    refine List.pairwise_cons.2 ⟨fun r hr => ?_, ih⟩
    rcases List.mem_cons.1 hr with rfl | hr
    · exact h0
    · exact bl_trans _ _ _ h0 ((List.pairwise_cons.1 ih).1 r hr)
/-- a search by halves over a beginning -/
theorem halve_spec {ahead : Nat → Bool} {n : Nat} (hm : ∀ i j, i < j → j < n → ahead j = true → ahead i = true) : ∀ (d i j : Nat), j - i ≤ d → i ≤ j → j ≤ n → (∀ k, k < i → ahead k = true) → (∀ k, j ≤ k → k < n → ahead k = false) →
    (∀ k, k < halve ahead i j → ahead k = true) ∧ (∀ k, halve ahead i j ≤ k → k < n → ahead k = false) := by
  intro d
  induction d with
  | zero =>
    intro i j hd hij hj h1 h2
    obtain rfl : i = j := by omega
    rw [halve_end]
    exact ⟨h1, h2⟩
  | succ d ih =>
    intro i j hd hij hj h1 h2
    by_cases hlt : i < j
    · cases ha : ahead ((i + j) / 2) with
      | true =>
        rw [halve_lt hlt ha]
        refine ih _ _ (by omega) (by omega) hj (fun k hk => ?_) h2
        rcases Nat.lt_or_ge k ((i + j) / 2) with c | c
        · exact hm k _ c (by omega) ha
        · obtain rfl : k = (i + j) / 2 := by omega
          exact ha
      | false =>
        rw [halve_ge hlt ha]
        refine ih _ _ (by omega) (by omega) (by omega) h1 (fun k hk hn => ?_)
        rcases Nat.lt_or_ge ((i + j) / 2) k with c | c
        · cases hk2 : ahead k with
          | false => rfl
          | true => rw [hm _ k c hn hk2] at ha; cases ha
        · obtain rfl : k = (i + j) / 2 := by omega
          exact ha
    · obtain rfl : i = j := by omega
      rw [halve_end]
      exact ⟨h1, h2⟩
theorem pairI_spec {ps : List Pr} (hs : SrtP ps) (key : ByteArray) : (∀ k, k < pairI ps key → Op.bytesLess (ps.getD k default).key.toList key.toList = true) ∧ (∀ k, pairI ps key ≤ k → k < ps.length → Op.bytesLess (ps.getD k default).key.toList key.toList = false) := by
  unfold pairI
  refine halve_spec (ahead := aheadP ps key) (n := ps.length) (fun i j hij hj ha => ?_) _ 0 ps.length (Nat.le_refl _) (Nat.zero_le _) (Nat.le_refl _) (fun k hk => by omega) (fun k h1 h2 => by omega)
  have hl : lessP (ps.getD i default) (ps.getD j default) := by
    rw [List.getD_eq_getElem?_getD, List.getD_eq_getElem?_getD, List.getElem?_eq_getElem (by omega), List.getElem?_eq_getElem hj]
    exact List.pairwise_iff_getElem.1 hs i j (by omega) hj hij
  exact bl_trans _ _ _ hl ha
theorem toList_inj {a b : ByteArray} (h : (a.toList == b.toList) = true) : a = b := by
  have := beq_iff_eq.1 h
  rw [ByteArray.toList_eq, ByteArray.toList_eq] at this
  exact ByteArray.ext (Array.ext' this)
/-- where a key stands, or would stand -/
inductive Cut (ps : List Pr) (key : ByteArray) : Prop where
  | has (l t : List Pr) (v : ByteArray) (e : ps = l ++ ⟨key, v⟩ :: t) (i : pairI ps key = l.length) (b : pairB ps key = true) (hl : ∀ q ∈ l, Op.bytesLess q.key.toList key.toList = true) (ht : ∀ q ∈ t, Op.bytesLess key.toList q.key.toList = true)
  | no (l t : List Pr) (e : ps = l ++ t) (i : pairI ps key = l.length) (b : pairB ps key = false) (hl : ∀ q ∈ l, Op.bytesLess q.key.toList key.toList = true) (ht : ∀ q ∈ t, Op.bytesLess key.toList q.key.toList = true)
theorem cut_of {ps : List Pr} (hs : SrtP ps) (key : ByteArray) : Cut ps key := by
  obtain ⟨h1, h2⟩ := pairI_spec hs key
  have hle := pairI_le ps key
  obtain ⟨r, hr⟩ : ∃ r, pairI ps key = r := ⟨_, rfl⟩
  have hB : pairB ps key = (decide (r < ps.length) && (cmpS (ps.getD r default).key key == 0)) := by unfold pairB; rw [hr]
  rw [hr] at h1 h2 hle
  have hl : ∀ q ∈ ps.take r, Op.bytesLess q.key.toList key.toList = true := fun q hq => by
    obtain ⟨i, hi, rfl⟩ := List.mem_iff_getElem.1 hq
    rw [List.length_take] at hi
    have := h1 i (by omega)
    rw [List.getD_eq_getElem?_getD, List.getElem?_eq_getElem (by omega)] at this
    simpa using this
  have hlen : (ps.take r).length = r := by rw [List.length_take]; omega
  by_cases hlt : r < ps.length
  · have hd : ps.drop r = ps.getD r default :: ps.drop (r + 1) := by
      rw [List.drop_eq_getElem_cons hlt, List.getD_eq_getElem?_getD, List.getElem?_eq_getElem hlt]; rfl
    have hps : ps = ps.take r ++ ps.getD r default :: ps.drop (r + 1) := by rw [← hd, List.take_append_drop]
    have h3 := h2 r (Nat.le_refl _) hlt
    have hsd : SrtP (ps.getD r default :: ps.drop (r + 1)) := by rw [← hd]; exact hs.drop
    cases he : (ps.getD r default).key.toList == key.toList with
    | true =>
      have hk := toList_inj he
      refine .has (ps.take r) (ps.drop (r + 1)) (ps.getD r default).val ?_ (by rw [hr, hlen]) ?_ hl (fun q hq => ?_)
      · rw [← hk]; exact hps
      · rw [hB, decide_eq_true hlt]; unfold cmpS; rw [h3, he]; rfl
      · rw [← hk]; exact (List.pairwise_cons.1 hsd).1 q hq
    | false =>
      have hg := bl_total _ _ h3 he
      refine .no (ps.take r) (ps.drop r) (List.take_append_drop _ _).symm (by rw [hr, hlen]) ?_ hl (fun q hq => ?_)
      · rw [hB]; unfold cmpS; rw [h3, he]; simp
      · rw [hd] at hq
        rcases List.mem_cons.1 hq with rfl | hq
        · exact hg
        · exact bl_trans _ _ _ hg ((List.pairwise_cons.1 hsd).1 q hq)
  · refine .no ps [] (by simp) (by rw [hr]; omega) ?_ (fun q hq => ?_) (fun q hq => by cases hq)
    · rw [hB, decide_eq_false hlt]; rfl
    · rw [List.take_of_length_le (by omega)] at hl; exact hl q hq
theorem at_pair {ps : List Pr} (hs : SrtP ps) {key : ByteArray} {i : Int} (h : AtP ps key i) : (i = -1 ∧ pairB ps key = false) ∨ (i = (pairI ps key : Int) ∧ pairB ps key = true) := by
  rcases h with ⟨rfl, h⟩ | ⟨k, hk, rfl, he⟩
  · left
    refine ⟨rfl, ?_⟩
    rcases cut_of hs key with ⟨l, t, v, e, i, b, hl, ht⟩ | ⟨l, t, e, i, b, hl, ht⟩
    · have := h l.length (by rw [e]; simp)
      rw [e] at this
      simp at this
    · exact b
  · right
    have hin : ps.getD k default ∈ ps := in_getD hk
    rcases cut_of hs key with ⟨l, t, v, e, i, b, hl, ht⟩ | ⟨l, t, e, i, b, hl, ht⟩
    · refine ⟨?_, b⟩
      rw [i]
      obtain ⟨p1, p2⟩ := pairI_spec hs key
      rcases Nat.lt_or_ge k l.length with c | c
      · have := p1 k (by omega)
        rw [bl_ne this] at he; cases he
      · rcases Nat.lt_or_ge l.length k with c2 | c2
        · have : ps.getD k default ∈ t := by
            rw [e, List.getD_eq_getElem?_getD, List.getElem?_append_right (by omega)]
            obtain ⟨j, hj⟩ : ∃ j, k - l.length = j + 1 := ⟨k - l.length - 1, by omega⟩
            rw [hj, List.getElem?_cons_succ]
            have hjt : j < t.length := by
              have := congrArg List.length e
              simp at this; omega
            rw [List.getElem?_eq_getElem hjt]
            exact List.getElem_mem _
          have := ht _ this
          rw [bl_ne' this] at he; cases he
        · congr 1; omega
    · rw [e] at hin
      rcases List.mem_append.1 hin with c | c
      · rw [← e] at c; have := hl _ c; rw [bl_ne this] at he; cases he
      · rw [← e] at c; have := ht _ c; rw [bl_ne' this] at he; cases he
theorem withS_lt {x : Pr} : ∀ (l : List Pr) (s : List Pr), (∀ q ∈ l, Op.bytesLess q.key.toList x.key.toList = true) → l.foldl (withSP x) (s, false) = (s ++ l, false)
  | [], s, _ => by simp
  | p :: l, s, h => by
    have hp := h p List.mem_cons_self
    have h1 : withSP x (s, false) p = (s ++ [p], false) := by
      unfold withSP withAP
      rw [bl_ne hp, hp]; rfl
    rw [List.foldl_cons, h1, withS_lt l (s ++ [p]) (fun q hq => h q (List.mem_cons_of_mem _ hq)), List.append_assoc]; rfl
theorem withS_gt {x : Pr} : ∀ (l : List Pr) (s : List Pr), (∀ q ∈ l, Op.bytesLess x.key.toList q.key.toList = true) → l.foldl (withSP x) (s, true) = (s ++ l, true)
  | [], s, _ => by simp
  | p :: l, s, h => by
    have hp := h p List.mem_cons_self
    have h1 : withSP x (s, true) p = (s ++ [p], true) := by
      unfold withSP withAP
      rw [bl_ne' hp]; rfl
    rw [List.foldl_cons, h1, withS_gt l (s ++ [p]) (fun q hq => h q (List.mem_cons_of_mem _ hq)), List.append_assoc]; rfl
theorem withP_put {ps : List Pr} (hs : SrtP ps) (key val : ByteArray) : withP ps ⟨key, val⟩ = putP ps key val := by
  rcases cut_of hs key with ⟨l, t, v, e, i, b, hl, ht⟩ | ⟨l, t, e, i, b, hl, ht⟩
  · have h1 : ps.foldl (withSP ⟨key, val⟩) ([], false) = (l ++ ⟨key, val⟩ :: t, true) := by
      rw [e, List.foldl_append, withS_lt l [] hl, List.foldl_cons]
      have h2 : withSP ⟨key, val⟩ ([] ++ l, false) ⟨key, v⟩ = (l ++ [⟨key, val⟩], true) := by
        unfold withSP withAP
        simp [bl_irrefl]
      rw [h2, withS_gt t _ ht, List.append_assoc]; rfl
    unfold withP putP
    rw [h1, if_pos rfl, if_pos b, i]
    show l ++ ⟨key, val⟩ :: t = ps.set l.length _
    rw [e]
    simp
  · have h1 : withP ps ⟨key, val⟩ = l ++ ⟨key, val⟩ :: t := by
      unfold withP
      rw [e, List.foldl_append, withS_lt l [] hl]
      cases t with
      | nil => simp
      | cons q t' =>
        have hq := ht q List.mem_cons_self
        have h2 : withSP ⟨key, val⟩ ([] ++ l, false) q = ((l ++ [⟨key, val⟩]) ++ [q], true) := by
          unfold withSP withAP
          simp [bl_asymm hq, bl_ne' hq]
        rw [List.foldl_cons, h2, withS_gt t' _ (fun r hr => ht r (List.mem_cons_of_mem _ hr))]
        simp
    rw [h1]
    unfold putP
    rw [if_neg (by rw [b]; decide), i]
    rw [e]
    simp
theorem withoutP_erase {ps : List Pr} (hs : SrtP ps) (key : ByteArray) (hb : pairB ps key = true) : withoutP ps key = ps.eraseIdx (pairI ps key) := by
  rcases cut_of hs key with ⟨l, t, v, e, i, b, hl, ht⟩ | ⟨l, t, e, i, b, hl, ht⟩
  · rw [i]
    unfold withoutP
    rw [e, List.filter_append, List.filter_cons, List.eraseIdx_append_of_length_le (by omega)]
    have f1 : l.filter (fun p => !(p.key.toList == key.toList)) = l := List.filter_eq_self.2 (fun q hq => by rw [bl_ne (hl q hq)]; rfl)
    have f2 : t.filter (fun p => !(p.key.toList == key.toList)) = t := List.filter_eq_self.2 (fun q hq => by rw [bl_ne' (ht q hq)]; rfl)
    rw [f1, f2]
    simp
  · rw [hb] at b; cases b
theorem srt_put {ps : List Pr} (hs : SrtP ps) (key val : ByteArray) : SrtP (putP ps key val) := by
  rcases cut_of hs key with ⟨l, t, v, e, i, b, hl, ht⟩ | ⟨l, t, e, i, b, hl, ht⟩
  · have h1 : putP ps key val = l ++ ⟨key, val⟩ :: t := by
      unfold putP
      rw [if_pos b, i, e]
      simp
    rw [h1]
    rw [e] at hs
    have h2 := List.pairwise_append.1 hs
    refine List.pairwise_append.2 ⟨h2.1, List.pairwise_cons.2 ⟨fun q hq => ht q hq, (List.pairwise_cons.1 h2.2.1).2⟩, fun p hp q hq => ?_⟩
    rcases List.mem_cons.1 hq with rfl | hq
    · exact hl p hp
    · exact h2.2.2 p hp q (List.mem_cons_of_mem _ hq)
  · have h1 : putP ps key val = l ++ ⟨key, val⟩ :: t := by
      unfold putP
      rw [if_neg (by rw [b]; decide), i, e]
      simp
    rw [h1]
    rw [e] at hs
    have h2 := List.pairwise_append.1 hs
    refine List.pairwise_append.2 ⟨h2.1, List.pairwise_cons.2 ⟨fun q hq => ht q hq, h2.2.1⟩, fun p hp q hq => ?_⟩
    rcases List.mem_cons.1 hq with rfl | hq
    · exact hl p hp
    · exact h2.2.2 p hp q hq
theorem srt_set {ps : List Pr} (hs : SrtP ps) (key val : ByteArray) (hb : pairB ps key = true) : SrtP (ps.set (pairI ps key) ⟨(ps.getD (pairI ps key) default).key, val⟩) := by
  have := srt_put hs key val
  unfold putP at this
  rw [if_pos hb] at this
  exact this
theorem srt_erase {ps : List Pr} (hs : SrtP ps) (i : Nat) : SrtP (ps.eraseIdx i) := hs.sublist (List.eraseIdx_sublist _ _)
theorem srt_does {ps : List Pr} (hs : SrtP ps) (ep : Int) (ms : List Mb) (op : Opn) : SrtP (doesP ps ep ms op).2.2.1 := by
  unfold doesP
  split
  · split <;> exact hs
  split
  · split
    · exact srt_put hs _ _
    · exact hs
  split
  · split
    · exact srt_erase hs _
    · exact hs
  split
  · split
    · rename_i hb
      split
      · exact srt_set hs _ _ hb
      · exact hs
    · exact hs
  split
  · exact hs
  split
  · exact hs
  split <;> exact hs
end Go.Proofs.YtfnfgnhbnffagaaDoor

/-
The plain laws of members: the document's members behind a change are the program's.
-/
namespace Go.Proofs.YtfnfgnhbnffagaaDoor
open Go.RowKit
set_option linter.unusedVariables false
set_option linter.unusedSimpArgs false
set_option maxRecDepth 100000
abbrev SrtM (ms : List Mb) : Prop := ms.Pairwise fun a b => a.id < b.id
theorem srtm_of {ms : List Mb} {n : Nat} (hn : ms.length = n) (h : Rising ms n) : SrtM ms := by
  refine List.pairwise_iff_getElem.2 fun i j hi hj hij => ?_
  have := h.lt hij (by omega)
  rw [List.getD_eq_getElem?_getD, List.getD_eq_getElem?_getD, List.getElem?_eq_getElem hi, List.getElem?_eq_getElem hj] at this
  exact this
theorem cutm_has : ∀ {ms : List Mb} {id : Int}, SrtM ms → hasB ms id = true → ∃ l m t, ms = l ++ m :: t ∧ m.id = id ∧ (∀ q ∈ l, q.id < id) ∧ (∀ q ∈ t, id < q.id) ∧ posI ms id = l.length
  | [], id, _, h => by simp [hasB] at h
  | m :: ms, id, hs, h => by
    obtain ⟨h1, h2⟩ := List.pairwise_cons.1 hs
    by_cases e : m.id = id
    · refine ⟨[], m, ms, rfl, e, by simp, fun q hq => by have := h1 q hq; omega, ?_⟩
      unfold posI
      rw [List.takeWhile_cons_of_neg (by simp; omega)]
    · have hh : hasB ms id = true := by
        unfold hasB at h ⊢
        rw [List.any_cons] at h
        simpa [e] using h
      obtain ⟨l, m', t, e1, e2, e3, e4, e5⟩ := cutm_has h2 hh
      have hlt : m.id < id := by
        have := h1 m' (by rw [e1]; simp)
        omega
      refine ⟨m :: l, m', t, by rw [e1]; rfl, e2, fun q hq => ?_, e4, ?_⟩
      · rcases List.mem_cons.1 hq with rfl | hq
        · exact hlt
        · exact e3 q hq
      · unfold posI at e5 ⊢
        rw [List.takeWhile_cons_of_pos (by simpa using hlt), List.length_cons, e5, List.length_cons]
theorem cutm_no : ∀ {ms : List Mb} {id : Int}, SrtM ms → hasB ms id = false → ∃ l t, ms = l ++ t ∧ (∀ q ∈ l, q.id < id) ∧ (∀ q ∈ t, id < q.id) ∧ posI ms id = l.length
  | [], id, _, h => ⟨[], [], rfl, by simp, by simp, rfl⟩
  | m :: ms, id, hs, h => by
    obtain ⟨h1, h2⟩ := List.pairwise_cons.1 hs
    unfold hasB at h
    rw [List.any_cons, Bool.or_eq_false_iff, beq_eq_false_iff_ne] at h
    by_cases e : m.id < id
    · obtain ⟨l, t, e1, e3, e4, e5⟩ := cutm_no h2 h.2
      refine ⟨m :: l, t, by rw [e1]; rfl, fun q hq => ?_, e4, ?_⟩
      · rcases List.mem_cons.1 hq with rfl | hq
        · exact e
        · exact e3 q hq
      · unfold posI at e5 ⊢
        rw [List.takeWhile_cons_of_pos (by simpa using e), List.length_cons, e5, List.length_cons]
    · refine ⟨[], m :: ms, rfl, by simp, fun q hq => ?_, ?_⟩
      · have hm : id < m.id := by have := h.1; omega
        rcases List.mem_cons.1 hq with rfl | hq
        · exact hm
        · have := h1 q hq; omega
      · unfold posI
        rw [List.takeWhile_cons_of_neg (by simpa using e)]; try rfl
theorem withoutM_erase {ms : List Mb} {id : Int} (hs : SrtM ms) (hh : hasB ms id = true) : withoutM ms id = ms.eraseIdx (posI ms id) := by
  obtain ⟨l, m, t, e1, e2, e3, e4, e5⟩ := cutm_has hs hh
  rw [e5]
  unfold withoutM
  have f1 : l.filter (fun p => !(p.id == id)) = l := List.filter_eq_self.2 (fun q hq => by have := e3 q hq; simp; omega)
  have f2 : t.filter (fun p => !(p.id == id)) = t := List.filter_eq_self.2 (fun q hq => by have := e4 q hq; simp; omega)
  rw [e1, List.filter_append, List.filter_cons, List.eraseIdx_append_of_length_le (by omega), f1, f2]
  simp [e2]
theorem withMS_lt {x : Mb} : ∀ (l : List Mb) (s : List Mb), (∀ q ∈ l, q.id < x.id) → l.foldl (withSM x) (s, false) = (s ++ l, false)
  | [], s, _ => by simp
  | p :: l, s, h => by
    have hp := h p List.mem_cons_self
    have h1 : withSM x (s, false) p = (s ++ [p], false) := by
      unfold withSM withAM
      rw [decide_eq_false (by omega)]; rfl
    rw [List.foldl_cons, h1, withMS_lt l (s ++ [p]) (fun q hq => h q (List.mem_cons_of_mem _ hq)), List.append_assoc]; rfl
theorem withMS_gt {x : Mb} : ∀ (l : List Mb) (s : List Mb), l.foldl (withSM x) (s, true) = (s ++ l, true)
  | [], s => by simp
  | p :: l, s => by
    have h1 : withSM x (s, true) p = (s ++ [p], true) := by
      unfold withSM withAM
      rfl
    rw [List.foldl_cons, h1, withMS_gt l (s ++ [p]), List.append_assoc]; rfl
theorem withM_ins {ms : List Mb} {x : Mb} (hs : SrtM ms) (hh : hasB ms x.id = false) : withM ms x = ms.take (posI ms x.id) ++ x :: ms.drop (posI ms x.id) := by
  obtain ⟨l, t, e1, e3, e4, e5⟩ := cutm_no hs hh
  rw [e5]
  have h1 : withM ms x = l ++ x :: t := by
    unfold withM
    rw [e1, List.foldl_append, withMS_lt l [] e3]
    cases t with
    | nil => simp
    | cons q t' =>
      have hq := e4 q List.mem_cons_self
      have h2 : withSM x ([] ++ l, false) q = ((l ++ [x]) ++ [q], true) := by
        unfold withSM withAM
        simp [hq]
      rw [List.foldl_cons, h2, withMS_gt t' _]
      simp
  rw [h1, e1]
  simp
theorem hasB_erase {ms : List Mb} {id : Int} (hs : SrtM ms) (hh : hasB ms id = true) : hasB (ms.eraseIdx (posI ms id)) id = false ∧ ∀ j, hasB ms j = false → hasB (ms.eraseIdx (posI ms id)) j = false := by
  obtain ⟨l, m, t, e1, e2, e3, e4, e5⟩ := cutm_has hs hh
  rw [e5]
  have he : ms.eraseIdx l.length = l ++ t := by rw [e1, List.eraseIdx_append_of_length_le (by omega)]; simp
  rw [he]
  unfold hasB
  refine ⟨?_, fun j hj => ?_⟩
  · rw [List.any_append, Bool.or_eq_false_iff, List.any_eq_false, List.any_eq_false]
    exact ⟨fun q hq => by have := e3 q hq; simp; omega, fun q hq => by have := e4 q hq; simp; omega⟩
  · rw [e1, List.any_append, List.any_cons] at hj
    rw [List.any_append]
    revert hj
    cases l.any (fun m => m.id == j) <;> cases t.any (fun m => m.id == j) <;> simp
theorem ref8L_eq {ep : Int} {ms : List Mb} {x : Chg} (he : appE ep ms x = 0) : ref8L ms x = appL ms x := by
  unfold appE at he
  split at he
  · rename_i hg
    have hs := srtm_of rfl (rising_of_good rfl hg.1)
    split at he
    · cases he
    split at he
    · cases he
    rename_i h7
    split at he
    · cases he
    rename_i h9
    have hk : x.kind = 1 ∨ x.kind = 2 ∨ x.kind = 3 ∨ x.kind = 4 := by omega
    unfold ref8L appL
    rcases hk with k | k | k | k
    · have hn : hasB ms (memOf x).id = false := by
        cases hh : hasB ms (memOf x).id with
        | false => rfl
        | true => exact absurd ⟨.inl k, hh⟩ h9
      simp only [k, if_true]
      simp only [show ¬ (1 : Int) = 2 by decide, if_false]
      exact withM_ins hs hn
    all_goals
      have hh : hasB ms x.id = true := by
        cases hh : hasB ms x.id with
        | true => rfl
        | false => exact absurd ⟨by omega, hh⟩ h7
      have hse : SrtM (ms.eraseIdx (posI ms x.id)) := hs.sublist (List.eraseIdx_sublist _ _)
      have hw := withoutM_erase hs hh
      have hb := hasB_erase hs hh
    · simp only [k, if_true]
      simp only [show ¬ (2 : Int) = 1 by decide, if_false]
      exact hw
    · have hn : hasB ms (memOf x).id = false := by
        cases hh : hasB ms (memOf x).id with
        | false => rfl
        | true => exact absurd ⟨.inr k, hh⟩ h9
      simp only [k]
      simp only [show ¬ (3 : Int) = 1 by decide, show ¬ (3 : Int) = 2 by decide, if_false]
      rw [hw]
      exact withM_ins hse (hb.2 _ hn)
    · have hm : (memOf x).id = x.id := by unfold memOf; rw [k]; rfl
      simp only [k]
      simp only [show ¬ (4 : Int) = 1 by decide, show ¬ (4 : Int) = 2 by decide, if_false]
      rw [hw]
      refine withM_ins hse ?_
      rw [hm]
      exact hb.1
  · cases he
end Go.Proofs.YtfnfgnhbnffagaaDoor
