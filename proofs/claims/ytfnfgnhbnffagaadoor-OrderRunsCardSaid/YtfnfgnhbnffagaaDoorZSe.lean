/-
The pieces of a search: what must be ahead, what is left.
-/
import Derived.Test.YtfnfgnhbnffagaaDoorZSlE
import Derived.Test.YtfnfgnhbnffagaaDoorZSlQ
namespace Go.Proofs.YtfnfgnhbnffagaaDoor
open Go.RowKit
set_option linter.unusedVariables false
set_option linter.unusedSimpArgs false
set_option maxRecDepth 100000
theorem lit1_any {m : Ev} (h : m.ok) (w : World) : Calls Tryd.prog 32 #[.agg m.arr] w fun e w' => e = .returned (.bool (decide (0 ≤ m.done))) ∧ Below w.heap.size w w' := by
  have k1 : (w.alloc (.cells m.arr 51)).cell? ⟨w.heap.size, 47, none⟩ = some (.int .i64 m.done) := by
    rw [cell_of_row (heap_alloc_new w _) (Ev.at47 h)]
  have hs := Ev.sz h
  have ho := Ev.ones m
  clear h
  go_enter Tryd.func32, Tryd.ntmps32
  go_wp2_with fail
  go_ret
  exact ⟨rfl, (Below.refl _ _).alloc (Nat.le_refl _) _⟩
/-- must an event be ahead of the other? -/
def aheadE (a b : Ev) : Bool := decide (0 ≤ a.done) && decide (a.done < b.called)
theorem ahead_any {a b : Ev} (ha : a.ok) (hb : b.ok) (w : World) : Calls Tryd.prog 34 #[.agg a.arr, .agg b.arr] w fun e w' => e = .returned (.bool (aheadE a b)) ∧ Below w.heap.size w w' := by
  have h1 : ((w.alloc (.cells a.arr 51)).alloc (.cells b.arr 51)).heap[w.heap.size]? = some (.cells a.arr 51 (0, 0)) := (Below.heap_alloc _ _ _ (by simp)).trans (heap_alloc_new w _)
  have h2 : ((w.alloc (.cells a.arr 51)).alloc (.cells b.arr 51)).heap[w.heap.size + 1]? = some (.cells b.arr 51 (0, 0)) := by
    have := heap_alloc_new (w.alloc (.cells a.arr 51)) (.cells b.arr 51)
    simpa using this
  have k1 : ((w.alloc (.cells a.arr 51)).alloc (.cells b.arr 51)).cell? ⟨w.heap.size, 47, none⟩ = some (.int .i64 a.done) := by rw [cell_of_row h1 (Ev.at47 ha)]
  have k2 : ((w.alloc (.cells a.arr 51)).alloc (.cells b.arr 51)).cell? ⟨w.heap.size + 1, 46, none⟩ = some (.int .i64 b.called) := by rw [cell_of_row h2 (Ev.at46 hb)]
  have hB : Below w.heap.size w ((w.alloc (.cells a.arr 51)).alloc (.cells b.arr 51)) := ((Below.refl _ _).alloc (Nat.le_refl _) _).alloc (by simp) _
  have HB := Lib.hid hB
  have s1 := Ev.sz ha
  have s2 := Ev.sz hb
  have o1 := Ev.ones a
  have o2 := Ev.ones b
  clear ha hb h1 h2 hB
  by_cases hd : 0 ≤ a.done
  · have hr := Lib.hid (show aheadE a b = decide (a.done < b.called) by unfold aheadE; simp [hd])
    go_enter Tryd.func34, Tryd.ntmps34
    go_wp2_with fail
    go_ret
    exact ⟨by rw [hr.out]; rfl, HB.out⟩
  · have hr := Lib.hid (show aheadE a b = false by unfold aheadE; simp [hd])
    have hd' : a.done < 0 := by omega
    go_enter Tryd.func34, Tryd.ntmps34
    go_wp2_with fail
    go_ret
    exact ⟨by rw [hr.out]; rfl, HB.out⟩
theorem lit2_any {a b : Ev} (g : Nat) (ha : a.ok) (hb : b.ok) (w : World) (hg : w.heap[g]? = some (.cells b.arr 51 (0, 0))) : Calls Tryd.prog 33 #[.agg a.arr, .pointer (some ⟨g, 0, none⟩)] w fun e w' => e = .returned (.bool (aheadE a b)) ∧ Below w.heap.size w w' := by
  have hlt : g < w.heap.size := (Array.getElem?_eq_some_iff.1 hg).1
  have hb1 : Below w.heap.size w (w.alloc (.cells a.arr 51)) := (Below.refl _ _).alloc (Nat.le_refl _) _
  have r1 : rowAt (w.alloc (.cells a.arr 51)) w.heap.size 0 48 = some a.arr := by unfold rowAt; rw [heap_alloc_new w _]; exact cut_all _ _ (Ev.size ha)
  have r2 : rowAt (w.alloc (.cells a.arr 51)) g 0 48 = some b.arr := by unfold rowAt; rw [hb1.block g hlt, hg]; exact cut_all _ _ (Ev.size hb)
  have s1 := Ev.sz ha
  have o1 := Ev.ones a
  have H := Lib.hid (And.intro ha (And.intro hb hb1))
  clear ha hb hg hb1 hlt
  go_enter Tryd.func33, Tryd.ntmps33
  go_wp2_with fail
  refine (ahead_any H.out.1 H.out.2.1 _).mono ?_
  rintro e w' ⟨rfl, h1⟩
  have H1 := Lib.hid (H.out.2.2.trans (h1.mono H.out.2.2.size))
  clear h1
  go_wp2_with fail
  go_ret
  exact ⟨rfl, H1.out⟩
theorem index1_any (A : Option Addr) (n cap : Nat) (ms : List Ev) (w : World) (h : ES w A n ms) (p : Ev → Bool) (hf : ∀ m ∈ ms, ∀ w', Below w.heap.size w w' → Calls Tryd.prog 32 #[.agg m.arr] w' fun e w'' => e = .returned (.bool (p m)) ∧ Below w'.heap.size w' w'') :
    Calls Tryd.prog 55 #[.slice A n cap, .func (.func 32) #[] #[]] w fun e w' => (∃ i : Int, e = .returned (.int .i64 i) ∧ (decide (0 ≤ i) = ms.any p)) ∧ Below w.heap.size w w' := by
  have hsm := h.small
  have hni : (n : Int) ≤ 140737488355328 := by omega
  have E := Lib.hid (And.intro h hf)
  clear h hf hsm
  go_enter Tryd.func55, Tryd.ntmps55
  go_wp2_with fail
  go_loopw [5, 8] (fun t5 t8 wr => ∃ k : Nat, k ≤ n ∧ t8 = .int .i64 k ∧ (∀ i, i < k → p (ms.getD i default) = false) ∧ Below w.heap.size w wr) (fun _ t8 _ => n - (intOf t8).toNat)
  case atStart => exact ⟨0, by omega, rfl, fun i hi => by omega, Below.refl _ _⟩
  case round =>
    obtain ⟨k, hk, rfl, hno, hb⟩ := hrel
    have hk0 : (0 : Int) ≤ k := by omega
    by_cases hlt : k < n
    · have hk1 : (k : Int) < n := by omega
      obtain ⟨b, off, rfl, hbb, hrow⟩ := E.out.1.mem (by omega)
      have hr := (rowAt_below hb hbb _ _).trans (hrow k hlt)
      have hin : ms.getD k default ∈ ms := by
        rw [List.getD_eq_getElem?_getD, List.getElem?_eq_getElem (by rw [E.out.1.len]; exact hlt)]
        exact List.getElem_mem _
      have E1 := Lib.hid (And.intro hno (And.intro hb (And.intro hin (show ∀ x, ms.getD k default = x → (∀ i, i < k → p (ms.getD i default) = false) → p x = false → ∀ i, i < k + 1 → p (ms.getD i default) = false from fun x hx h0 h1 i hi => by
        rcases Nat.lt_or_ge i k with c | c
        · exact h0 i c
        · obtain rfl : i = k := by omega
          rw [hx]; exact h1))))
      clear hno hb hin hrow
      generalize hx : ms.getD k default = x at hr E1
      have HX := Lib.hid hx
      clear hx
      go_wp2_with fail
      refine (E.out.2 x E1.out.2.2.1 _ E1.out.2.1).mono ?_
      rintro e w1 ⟨rfl, hb1⟩
      have hB1 := E1.out.2.1.trans (hb1.mono E1.out.2.1.size)
      clear hb1
      cases hp : p x with
      | true =>
        have HB := Lib.hid hB1
        clear hB1
        go_wp2_with fail
        go_ret
        refine ⟨⟨k, rfl, ?_⟩, HB.out⟩
        rw [decide_eq_true hk0]
        symm
        exact List.any_eq_true.2 ⟨x, E1.out.2.2.1, hp⟩
      | false =>
        have HB := Lib.hid (And.intro hB1 hp)
        clear hB1 hp
        go_wp2_with fail
        go_roundw
        case rel => exact ⟨k + 1, by omega, by go_num, E1.out.2.2.2 x rfl E1.out.1 HB.out.2, HB.out.1⟩
        case measure => simp [intOf]; omega
    · have hkn : k = n := by omega
      have E1 := Lib.hid (And.intro hno hb)
      clear hno hb
      go_wp2_with fail
      go_ret
      refine ⟨⟨-1, rfl, ?_⟩, E1.out.2⟩
      rw [decide_eq_false (by omega)]
      symm
      rw [List.any_eq_false]
      intro x hx
      obtain ⟨i, hi, rfl⟩ := List.mem_iff_getElem.1 hx
      have := E1.out.1 i (by rw [hkn, ← E.out.1.len]; exact hi)
      rw [List.getD_eq_getElem?_getD, List.getElem?_eq_getElem hi] at this
      simpa using this
theorem contains1_any (A : Option Addr) (n cap : Nat) (ms : List Ev) (w : World) (h : ES w A n ms) (p : Ev → Bool) (hf : ∀ m ∈ ms, ∀ w', Below w.heap.size w w' → Calls Tryd.prog 32 #[.agg m.arr] w' fun e w'' => e = .returned (.bool (p m)) ∧ Below w'.heap.size w' w'') :
    Calls Tryd.prog 31 #[.slice A n cap, .func (.func 32) #[] #[]] w fun e w' => e = .returned (.bool (ms.any p)) ∧ Below w.heap.size w w' := by
  have E := Lib.hid (And.intro h hf)
  clear h hf
  go_enter Tryd.func31, Tryd.ntmps31
  go_wp2_with fail
  refine (index1_any A n cap ms _ E.out.1 p E.out.2).mono ?_
  rintro e w1 ⟨⟨i, rfl, hi⟩, hb⟩
  have H := Lib.hid (And.intro hi hb)
  clear hi hb
  go_wp2_with fail
  go_ret
  exact ⟨by rw [← H.out.1]; rfl, H.out.2⟩
theorem index2_any (A : Option Addr) (n cap : Nat) (ms : List Ev) (g : Nat) (w : World) (h : ES w A n ms) (p : Ev → Bool) (hf : ∀ m ∈ ms, ∀ w', Below w.heap.size w w' → Calls Tryd.prog 33 #[.agg m.arr, .pointer (some ⟨g, 0, none⟩)] w' fun e w'' => e = .returned (.bool (p m)) ∧ Below w'.heap.size w' w'') :
    Calls Tryd.prog 55 #[.slice A n cap, .func (.func 33) #[] #[.pointer (some ⟨g, 0, none⟩)]] w fun e w' => (∃ i : Int, e = .returned (.int .i64 i) ∧ (decide (0 ≤ i) = ms.any p)) ∧ Below w.heap.size w w' := by
  have hsm := h.small
  have hni : (n : Int) ≤ 140737488355328 := by omega
  have E := Lib.hid (And.intro h hf)
  clear h hf hsm
  go_enter Tryd.func55, Tryd.ntmps55
  go_wp2_with fail
  go_loopw [5, 8] (fun t5 t8 wr => ∃ k : Nat, k ≤ n ∧ t8 = .int .i64 k ∧ (∀ i, i < k → p (ms.getD i default) = false) ∧ Below w.heap.size w wr) (fun _ t8 _ => n - (intOf t8).toNat)
  case atStart => exact ⟨0, by omega, rfl, fun i hi => by omega, Below.refl _ _⟩
  case round =>
    obtain ⟨k, hk, rfl, hno, hb⟩ := hrel
    have hk0 : (0 : Int) ≤ k := by omega
    by_cases hlt : k < n
    · have hk1 : (k : Int) < n := by omega
      obtain ⟨b, off, rfl, hbb, hrow⟩ := E.out.1.mem (by omega)
      have hr := (rowAt_below hb hbb _ _).trans (hrow k hlt)
      have hin : ms.getD k default ∈ ms := by
        rw [List.getD_eq_getElem?_getD, List.getElem?_eq_getElem (by rw [E.out.1.len]; exact hlt)]
        exact List.getElem_mem _
      have E1 := Lib.hid (And.intro hno (And.intro hb (And.intro hin (show ∀ x, ms.getD k default = x → (∀ i, i < k → p (ms.getD i default) = false) → p x = false → ∀ i, i < k + 1 → p (ms.getD i default) = false from fun x hx h0 h1 i hi => by
        rcases Nat.lt_or_ge i k with c | c
        · exact h0 i c
        · obtain rfl : i = k := by omega
          rw [hx]; exact h1))))
      clear hno hb hin hrow
      generalize hx : ms.getD k default = x at hr E1
      have HX := Lib.hid hx
      clear hx
      go_wp2_with fail
      refine (E.out.2 x E1.out.2.2.1 _ E1.out.2.1).mono ?_
      rintro e w1 ⟨rfl, hb1⟩
      have hB1 := E1.out.2.1.trans (hb1.mono E1.out.2.1.size)
      clear hb1
      cases hp : p x with
      | true =>
        have HB := Lib.hid hB1
        clear hB1
        go_wp2_with fail
        go_ret
        refine ⟨⟨k, rfl, ?_⟩, HB.out⟩
        rw [decide_eq_true hk0]
        symm
        exact List.any_eq_true.2 ⟨x, E1.out.2.2.1, hp⟩
      | false =>
        have HB := Lib.hid (And.intro hB1 hp)
        clear hB1 hp
        go_wp2_with fail
        go_roundw
        case rel => exact ⟨k + 1, by omega, by go_num, E1.out.2.2.2 x rfl E1.out.1 HB.out.2, HB.out.1⟩
        case measure => simp [intOf]; omega
    · have hkn : k = n := by omega
      have E1 := Lib.hid (And.intro hno hb)
      clear hno hb
      go_wp2_with fail
      go_ret
      refine ⟨⟨-1, rfl, ?_⟩, E1.out.2⟩
      rw [decide_eq_false (by omega)]
      symm
      rw [List.any_eq_false]
      intro x hx
      obtain ⟨i, hi, rfl⟩ := List.mem_iff_getElem.1 hx
      have := E1.out.1 i (by rw [hkn, ← E.out.1.len]; exact hi)
      rw [List.getD_eq_getElem?_getD, List.getElem?_eq_getElem hi] at this
      simpa using this
theorem contains2_any (A : Option Addr) (n cap : Nat) (ms : List Ev) (g : Nat) (w : World) (h : ES w A n ms) (p : Ev → Bool) (hf : ∀ m ∈ ms, ∀ w', Below w.heap.size w w' → Calls Tryd.prog 33 #[.agg m.arr, .pointer (some ⟨g, 0, none⟩)] w' fun e w'' => e = .returned (.bool (p m)) ∧ Below w'.heap.size w' w'') :
    Calls Tryd.prog 31 #[.slice A n cap, .func (.func 33) #[] #[.pointer (some ⟨g, 0, none⟩)]] w fun e w' => e = .returned (.bool (ms.any p)) ∧ Below w.heap.size w w' := by
  have E := Lib.hid (And.intro h hf)
  clear h hf
  go_enter Tryd.func31, Tryd.ntmps31
  go_wp2_with fail
  refine (index2_any A n cap ms g _ E.out.1 p E.out.2).mono ?_
  rintro e w1 ⟨⟨i, rfl, hi⟩, hb⟩
  have H := Lib.hid (And.intro hi hb)
  clear hi hb
  go_wp2_with fail
  go_ret
  exact ⟨by rw [← H.out.1]; rfl, H.out.2⟩
end Go.Proofs.YtfnfgnhbnffagaaDoor
