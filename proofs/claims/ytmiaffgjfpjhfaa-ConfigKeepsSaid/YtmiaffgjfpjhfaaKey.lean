/-
Keys: the same, or not; a member's key; and what a configuration that can be is, said of lists.
-/
import Derived.Test.YtmiaffgjfpjhfaaFour
namespace Go.Proofs.Ytmiaffgjfpjhfaa
open Go.RowKit
set_option linter.unusedVariables false
set_option linter.unusedSimpArgs false

theorem wf_zero : (Lit.int .i64 0).wf = true := by decide
theorem Kb.lits_inj {m k : Kb} (hm : m.ok) (hk : k.ok) (h : m.lits = k.lits) : m = k := by
  have e : (Mb.mk 0 m) = Mb.mk 0 k := Mb.lits_inj ⟨hm, wf_zero⟩ ⟨hk, wf_zero⟩ (by unfold Mb.lits; simp only; rw [h])
  injection e
theorem run_eq_Key {m k : Kb} (hm : m.ok) (hk : k.ok) (w : World) : (Op.equal 33 (.agg m.arr) (.agg k.arr)).run Try.prog w = .ok (decide (m = k)) w := by
  have f : ∀ {x : Kb}, x.ok → (Value.agg x.arr).formed Try.prog 33 = true := by
    intro x hx
    have := Kb.size hx
    simp [Value.formed, Try.underlying33, cellsT_Key, this]
  obtain ⟨r, h1, h2⟩ := run_equalIn_deep (P := Try.prog) 9994 6 33 (by kernel_rfl) w 3 3 (.agg m.arr) (.agg k.arr) m.lits k.lits (f hm) (f hk) (by simpa [Value.cells, Kb.arr] using m.keyLits hm 0) (by simpa [Value.cells, Kb.arr] using k.keyLits hk 0)
  have h3 : (Op.equal 33 (.agg m.arr) (.agg k.arr)).run Try.prog w = .ok r w := h1
  rw [h3]
  congr 1
  rw [Bool.eq_iff_iff, h2, decide_eq_true_eq]
  exact ⟨fun h => Kb.lits_inj hm hk h, fun h => by rw [h]⟩
@[go_sem] theorem eqRow_Key (xs ys : Array Value) : binOp .eql 33 (.agg xs) (.agg ys) = eqRow 33 xs ys := rfl
@[go_sem] theorem neRow_Key (xs ys : Array Value) : binOp .neq 33 (.agg xs) (.agg ys) = neRow 33 xs ys := rfl
theorem run_eqRowK {m k : Kb} (hm : m.ok) (hk : k.ok) (w : World) : (eqRow 33 m.arr k.arr).run Try.prog w = .ok (.bool (decide (m = k))) w := by
  unfold eqRow
  simp only [binOp, Sem.run_bind, run_eq_Key hm hk w, Result.andThen_ok, Sem.run_pure]
theorem run_neRowK {m k : Kb} (hm : m.ok) (hk : k.ok) (w : World) : (neRow 33 m.arr k.arr).run Try.prog w = .ok (.bool (!decide (m = k))) w := by
  unfold neRow
  simp only [binOp, Sem.run_bind, run_eq_Key hm hk w, Result.andThen_ok, Sem.run_pure]
theorem Mb.cutKey {m : Mb} (h : m.ok) : Go.Proofs.Ytmiaffgjfpjhfaa.cut m.arr 1 33 = some m.key.arr := by
  unfold Go.Proofs.Ytmiaffgjfpjhfaa.cut
  rw [Mb.size h, if_pos (by decide)]
  congr 1
  apply Array.ext'
  rw [Array.toList_extract, List.extract_eq_take_drop]
  show (m.cells.drop 1).take 33 = m.key.cells
  unfold Mb.cells
  simp only [List.drop_succ_cons, List.drop_zero]
  exact List.take_of_length_le (by rw [Kb.len h.key]; decide)
theorem Kb.sz {k : Kb} (h : k.ok) : SizeIs k.arr 33 := Kb.size h
theorem Kb.cut {k : Kb} (h : k.ok) : Go.Proofs.Ytmiaffgjfpjhfaa.cut k.arr 0 33 = some k.arr := cut_all _ _ (Kb.size h)
theorem Chg.sz {k : Chg} (h : k.ok) : SizeIs k.arr 36 := Chg.size h
@[go_sem ↓] theorem lv_Change (a : Addr) : loadVar 35 a = ldVar 35 a := rfl
@[go_sem] theorem run_lv_Change (w : World) (b o : Nat) : (ldVar 35 ⟨b, o, none⟩).run Try.prog w = match rowAt w b o 36 with | some cs => .ok (.agg cs) w | none => (ldRaw 35 ⟨b, o, none⟩).run Try.prog w :=
  run_ldVar w 35 b o 36 _ Try.underlying35 rfl (by kernel_rfl)

/-! ### configurations that can be, as lists -/
def Up (ms : List Mb) : Prop := ms.Pairwise (fun a b => a.id < b.id)
theorem getD_at {ms : List Mb} {i : Nat} (h : i < ms.length) : ms.getD i default = ms[i] := by
  rw [List.getD_eq_getElem?_getD, List.getElem?_eq_getElem h]; rfl
theorem good_iff {ep : Int} {ms : List Mb} : goodB ep ms = true ↔ (0 ≤ ep ∧ ep ≤ 1073741824 ∧ ms.length ≠ 0 ∧ ms.length ≤ 10) ∧ (∀ m ∈ ms, rightB m = true) ∧ Up ms := by
  constructor
  · intro h
    have hr := rising_of_good rfl h
    unfold goodB at h
    rw [Bool.and_eq_true, decide_eq_true_eq, List.all_eq_true] at h
    refine ⟨h.1, fun m hm => ?_, ?_⟩
    · obtain ⟨i, hi, rfl⟩ := List.mem_iff_getElem.1 hm
      have := h.2 i (by simpa using hi)
      unfold fineB at this
      rw [Bool.and_eq_true, getD_at hi] at this
      exact this.1
    · rw [Up, List.pairwise_iff_getElem]
      intro i j hi hj hij
      have := hr.lt hij hj
      rwa [getD_at hi, getD_at hj] at this
  · rintro ⟨h1, h2, h3⟩
    refine goodB_all rfl h1.1 h1.2.1 h1.2.2.1 h1.2.2.2 fun i hi => ?_
    unfold fineB
    rw [Bool.and_eq_true, getD_at hi]
    refine ⟨h2 _ (List.getElem_mem _), ?_⟩
    rw [Bool.or_eq_true]
    by_cases h0 : i = 0
    · exact .inl (by simp [h0])
    · refine .inr ?_
      rw [decide_eq_true_eq, getD_at (by omega)]
      exact (List.pairwise_iff_getElem.1 h3) _ _ _ _ (by omega)
theorem take_pos (l : List Mb) (id : Int) : l.take (posI l id) = l.takeWhile (fun m => decide (m.id < id)) := by
  have h := List.takeWhile_append_dropWhile (p := fun m : Mb => decide (m.id < id)) (l := l)
  unfold posI
  conv => lhs; rw [← h]
  rw [List.take_left' (by rw [h])]
theorem drop_pos (l : List Mb) (id : Int) : l.drop (posI l id) = l.dropWhile (fun m => decide (m.id < id)) := by
  have h := List.takeWhile_append_dropWhile (p := fun m : Mb => decide (m.id < id)) (l := l)
  unfold posI
  conv => lhs; rw [← h]
  rw [List.drop_left' (by rw [h])]
theorem take_lt (l : List Mb) (id : Int) : ∀ m ∈ l.take (posI l id), m.id < id := by
  intro m hm
  rw [take_pos] at hm
  have := List.all_takeWhile (p := fun m : Mb => decide (m.id < id)) (l := l)
  rw [List.all_eq_true] at this
  simpa using this m hm
theorem drop_ge {l : List Mb} (h : Up l) (id : Int) : ∀ m ∈ l.drop (posI l id), id ≤ m.id := by
  rw [drop_pos]
  induction l with
  | nil => simp
  | cons a l ih =>
    rw [List.dropWhile_cons]
    rw [Up, List.pairwise_cons] at h
    by_cases c : a.id < id
    · rw [if_pos (by simpa using c)]; exact ih h.2
    · rw [if_neg (by simpa using c)]
      intro m hm
      rcases List.mem_cons.1 hm with rfl | hm
      · omega
      · have := h.1 m hm; omega
/-- a member among members, at its place -/
def ins (l : List Mb) (m : Mb) : List Mb := l.take (posI l m.id) ++ m :: l.drop (posI l m.id)
theorem ins_length (l : List Mb) (m : Mb) : (ins l m).length = l.length + 1 := by
  have := congrArg List.length (List.take_append_drop (posI l m.id) l)
  simp only [List.length_append] at this
  simp only [ins, List.length_append, List.length_cons]
  omega
theorem mem_ins {l : List Mb} {m x : Mb} : x ∈ ins l m ↔ x = m ∨ x ∈ l := by
  conv => rhs; rw [← List.take_append_drop (posI l m.id) l]
  simp only [ins, List.mem_append, List.mem_cons]
  constructor
  · exact fun h => h.elim (fun h => .inr (.inl h)) (fun h => h.elim .inl (fun h => .inr (.inr h)))
  · exact fun h => h.elim (fun h => .inr (.inl h)) (fun h => h.elim .inl (fun h => .inr (.inr h)))
theorem hasB_iff {l : List Mb} {id : Int} : hasB l id = true ↔ ∃ m ∈ l, m.id = id := by
  unfold hasB; simp [List.any_eq_true]
theorem hasB_no {l : List Mb} {id : Int} : hasB l id = false ↔ ∀ m ∈ l, m.id ≠ id := by
  unfold hasB; simp [List.any_eq_false]
theorem up_ins {l : List Mb} {m : Mb} (h : Up l) (hn : hasB l m.id = false) : Up (ins l m) := by
  have hd := drop_ge h m.id
  have ht := take_lt l m.id
  have h2 := h
  rw [Up, ← List.take_append_drop (posI l m.id) l, List.pairwise_append] at h2
  unfold ins
  rw [Up, List.pairwise_append]
  refine ⟨h2.1, List.pairwise_cons.2 ⟨fun x hx => ?_, h2.2.1⟩, fun a ha b hb => ?_⟩
  · have h3 := hd x hx
    have h4 := hasB_no.1 hn x (List.mem_of_mem_drop hx)
    omega
  · rcases List.mem_cons.1 hb with rfl | hb
    · exact ht a ha
    · exact h2.2.2 a ha b hb
theorem good_ins {ep ep' : Int} {l : List Mb} {m : Mb} (h : goodB ep l = true) (hr : rightB m = true) (hn : hasB l m.id = false) (hl : l.length ≠ 10) (h0 : 0 ≤ ep') (h1 : ep' ≤ 1073741824) : goodB ep' (ins l m) = true := by
  obtain ⟨a, b, c⟩ := good_iff.1 h
  refine good_iff.2 ⟨⟨h0, h1, ?_, ?_⟩, ?_, up_ins c hn⟩
  · rw [ins_length]; omega
  · rw [ins_length]; omega
  · intro x hx
    rcases mem_ins.1 hx with rfl | hx
    · exact hr
    · exact b x hx
theorem posI_le (l : List Mb) (id : Int) : posI l id ≤ l.length := by
  unfold posI; exact List.IsPrefix.length_le (List.takeWhile_prefix _)
theorem posI_ins (l : List Mb) (m : Mb) : posI (ins l m) m.id = posI l m.id := by
  have ht := take_lt l m.id
  have hl := posI_le l m.id
  unfold posI at ht hl ⊢
  unfold ins posI
  generalize (l.takeWhile (fun k => decide (k.id < m.id))).length = p at *
  rw [List.takeWhile_append_of_pos (fun a ha => by simpa using ht a ha), List.takeWhile_cons, if_neg (by simp), List.append_nil, List.length_take]
  omega
theorem ins_at (l : List Mb) (m : Mb) : (ins l m).getD (posI l m.id) default = m := by
  have hl := posI_le l m.id
  unfold ins
  rw [List.getD_eq_getElem?_getD, List.getElem?_append_right (by rw [List.length_take]; exact Nat.min_le_left _ _)]
  simp [Nat.min_eq_left hl]
theorem erase_ins (l : List Mb) (m : Mb) : (ins l m).eraseIdx (posI l m.id) = l := by
  have hl := posI_le l m.id
  unfold ins
  rw [List.eraseIdx_append_of_length_le (by simp; omega)]
  simp [Nat.min_eq_left hl]
theorem hasB_ins (l : List Mb) (m : Mb) : hasB (ins l m) m.id = true := hasB_iff.2 ⟨m, mem_ins.2 (.inl rfl), rfl⟩
theorem placeI_ins (l : List Mb) (m : Mb) : placeI (ins l m) m.id = (posI l m.id : Int) := by
  have hl := posI_le l m.id
  refine placeI_at (by rw [ins_length]; omega) (by rw [ins_at]) fun j hj => ?_
  have h1 : (ins l m).getD j default = (l.take (posI l m.id))[j]'(by simp; omega) := by
    unfold ins
    rw [List.getD_eq_getElem?_getD, List.getElem?_append_left (by simp; omega), List.getElem?_eq_getElem (by simp; omega)]
    rfl
  rw [h1]
  have := take_lt l m.id _ (List.getElem_mem (l := l.take (posI l m.id)) (n := j) (by simp; omega))
  omega
/-- Apply's words, as they are needed -/
theorem appE_zero {ep : Int} {ms : List Mb} {x : Chg} (h : appE ep ms x = 0) : (goodB ep ms = true ∧ 1 ≤ x.kind ∧ x.kind ≤ 4 ∧ ep ≠ 1073741824) ∧ (x.kind ≠ 2 → rightB (memOf x) = true) ∧ (x.kind ≠ 1 → hasB ms x.id = true) ∧
    (x.kind = 1 ∨ x.kind = 3 → hasB ms (memOf x).id = false) ∧ (x.kind = 1 → ms.length ≠ 10) ∧ (x.kind = 2 → ms.length ≠ 1) := by
  unfold appE at h
  split at h
  · rename_i h0
    split at h
    · cases h
    · rename_i h1
      split at h
      · cases h
      · rename_i h2
        split at h
        · cases h
        · rename_i h3
          split at h
          · cases h
          · rename_i h4
            split at h
            · cases h
            · rename_i h5
              refine ⟨h0, fun k => ?_, fun k => ?_, fun k => ?_, fun k e => h4 ⟨k, e⟩, fun k e => h5 ⟨k, e⟩⟩
              · cases e : rightB (memOf x) with
                | true => rfl
                | false => exact absurd ⟨k, e⟩ h1
              · cases e : hasB ms x.id with
                | true => rfl
                | false => exact absurd ⟨k, e⟩ h2
              · cases e : hasB ms (memOf x).id with
                | false => rfl
                | true => exact absurd ⟨k, e⟩ h3
  · cases h
theorem appE_ok {ep : Int} {ms : List Mb} {x : Chg} (h0 : goodB ep ms = true ∧ 1 ≤ x.kind ∧ x.kind ≤ 4 ∧ ep ≠ 1073741824) (h1 : x.kind ≠ 2 → rightB (memOf x) = true) (h2 : x.kind ≠ 1 → hasB ms x.id = true)
    (h3 : x.kind = 1 ∨ x.kind = 3 → hasB ms (memOf x).id = false) (h4 : x.kind = 1 → ms.length ≠ 10) (h5 : x.kind = 2 → ms.length ≠ 1) : appE ep ms x = 0 := by
  unfold appE
  rw [if_pos h0, if_neg (fun h => by have := h1 h.1; rw [h.2] at this; cases this), if_neg (fun h => by have := h2 h.1; rw [h.2] at this; cases this), if_neg (fun h => by have := h3 h.1; rw [h.2] at this; cases this),
    if_neg (fun h => h4 h.1 h.2), if_neg (fun h => h5 h.1 h.2)]

theorem wf_one : (Lit.int .i64 1).wf = true := by decide
theorem wf_two : (Lit.int .i64 2).wf = true := by decide
theorem wf_three : (Lit.int .i64 3).wf = true := by decide
theorem wf_four : (Lit.int .i64 4).wf = true := by decide
theorem chg_ok {a b c : Int} {k : Kb} (ha : (Lit.int .i64 a).wf = true) (hb : (Lit.int .i64 b).wf = true) (hc : (Lit.int .i64 c).wf = true) (hk : k.ok) : (Chg.mk a b c k).ok := ⟨ha, hb, hc, hk⟩
theorem Applied.no {ep E : Int} {L : List Mb} {w w' : World} {e : Ending} (h : Applied ep E L w e w') (hE : E ≠ 0) (hL : L = []) : ∃ A cap, e = .returned (.tuple #[.agg #[.int .i64 0, .slice A 0 cap], .int .i64 E]) ∧ MS w' A 0 [] ∧ Below w.heap.size w w' := by
  subst hL
  obtain ⟨v, rfl, hown, hok, hb⟩ := h
  obtain ⟨A, cap, rfl, M⟩ := MS_of_own hown hok (by decide)
  exact ⟨A, cap, by rw [if_neg hE]; rfl, M, hb⟩
theorem Applied.yes {ep : Int} {L : List Mb} {w w' : World} {e : Ending} {n : Nat} (h : Applied ep 0 L w e w') (hL : L.length = n) (hn : n ≤ 1000000) : ∃ A cap, e = .returned (.tuple #[.agg #[.int .i64 (ep + 1), .slice A n cap], .int .i64 0]) ∧ MS w' A n L ∧ OkAll L ∧ Below w.heap.size w w' := by
  subst hL
  obtain ⟨v, rfl, hown, hok, hb⟩ := h
  obtain ⟨A, cap, rfl, M⟩ := MS_of_own hown hok (by omega)
  exact ⟨A, cap, by rw [if_pos rfl], M, hok, hb⟩
theorem appR_no {ep : Int} {ms : List Mb} {x : Chg} (h : appE ep ms x ≠ 0) : appR ep ms x = [] := by unfold appR; rw [if_neg h]
theorem appR_add {ep : Int} {ms : List Mb} {x : Chg} (h : appE ep ms x = 0) (hk : x.kind = 1) : appR ep ms x = ins ms ⟨x.id, x.key⟩ := by
  unfold appR; rw [if_pos h]; unfold appL memOf ins; rw [hk]; simp
theorem appR_del {ep : Int} {ms : List Mb} {x : Chg} (h : appE ep ms x = 0) (hk : x.kind = 2) : appR ep ms x = ms.eraseIdx (posI ms x.id) := by
  unfold appR; rw [if_pos h]; unfold appL; rw [hk]; simp
theorem appR_rep {ep : Int} {ms : List Mb} {x : Chg} (h : appE ep ms x = 0) (hk : x.kind = 3) : appR ep ms x = ins (ms.eraseIdx (posI ms x.id)) ⟨x.nw, x.key⟩ := by
  unfold appR; rw [if_pos h]; unfold appL memOf ins; rw [hk]; simp
theorem appR_rot {ep : Int} {ms : List Mb} {x : Chg} (h : appE ep ms x = 0) (hk : x.kind = 4) : appR ep ms x = ins (ms.eraseIdx (posI ms x.id)) ⟨x.id, x.key⟩ := by
  unfold appR; rw [if_pos h]; unfold appL memOf ins; rw [hk]; simp

theorem appR_len (ep : Int) (ms : List Mb) (x : Chg) : (appR ep ms x).length ≤ ms.length + 1 := by
  have he : ∀ i, (ms.eraseIdx i).length ≤ ms.length := fun i => by rw [List.length_eraseIdx]; split <;> omega
  have hi : ∀ (l : List Mb) (m : Mb) (p : Nat), (l.take p ++ m :: l.drop p).length = l.length + 1 := fun l m p => by
    have := congrArg List.length (List.take_append_drop p l)
    simp only [List.length_append] at this
    simp only [List.length_append, List.length_cons]
    omega
  unfold appR
  split
  · unfold appL
    split <;> split <;> simp only [hi] <;> (have := he (posI ms x.id); omega)
  · exact Nat.zero_le _
theorem Applied.any {ep E : Int} {L : List Mb} {w w' : World} {e : Ending} (h : Applied ep E L w e w') (hn : L.length ≤ 1000000) : ∃ A cap, e = .returned (.tuple #[.agg #[.int .i64 (if E = 0 then ep + 1 else 0), .slice A L.length cap], .int .i64 E]) ∧ MS w' A L.length L ∧ OkAll L ∧ Below w.heap.size w w' := by
  obtain ⟨v, rfl, hown, hok, hb⟩ := h
  obtain ⟨A, cap, rfl, M⟩ := MS_of_own hown hok (by omega)
  exact ⟨A, cap, rfl, M, hok, hb⟩

end Go.Proofs.Ytmiaffgjfpjhfaa
