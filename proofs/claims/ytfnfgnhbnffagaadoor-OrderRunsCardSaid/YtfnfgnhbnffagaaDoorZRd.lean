/-
The document's answer: a change of the configuration.
-/
import Derived.Test.YtfnfgnhbnffagaaDoorZRc
import Derived.Test.YtfnfgnhbnffagaaDoorZDch
namespace Go.Proofs.YtfnfgnhbnffagaaDoor
open Go.RowKit
set_option linter.unusedVariables false
set_option linter.unusedSimpArgs false
set_option maxRecDepth 100000
@[go_sem ↓] theorem ap_M8 (ty : TypeId) (args : Array Value) : Builtin.append_ #[24, 24] ty args = apRow #[24, 24] ty args := rfl
theorem full_M {w : World} {A : Option Addr} {n : Nat} {ms : List Mb} (cap : Nat) (h : MS w A n ms) (ho : SlOk A n) (hn : n ≤ 1000) : ∃ v' w1,
    (apRow #[24, 24] 24 #[.slice (some ⟨w.heap.size, 0, none⟩) 0 0, .slice A n cap]).run Tryd.prog (w.alloc (.cells #[] 60)) = .ok v' w1 ∧
    w1.ownsRow w.heap.size 60 34 v' n (flatC Mb.cells ms) ∧ Below w.heap.size w w1 := by
  obtain ⟨i0, hi, hz0, hz1, hz2⟩ := info_parts infoM
  have hok : OkAll ms := h.ok
  have hown : (w.alloc (.cells #[] 60)).ownsRow w.heap.size 60 34 (.slice (some ⟨w.heap.size, 0, none⟩) 0 0) 0 [] := World.ownsRow_made w #[] 0 (Nat.le_refl _) (by decide) rfl
  cases A with
  | none =>
    obtain rfl := ho.none rfl
    have hms : ms = [] := List.eq_nil_of_length_eq_zero h.len
    subst hms
    refine ⟨_, _, ?_, hown, (Below.refl _ _).alloc (Nat.le_refl _) _⟩
    simp [apRow, Builtin.append_, run_underlying Tryd.underlying24, sizeOf, typeInfo, hi, Builtin.lenOf, Builtin.firstCells, storeCells]
  | some ad =>
    have hnews : ∀ j u, (flatC Mb.cells ms)[j]? = some u → (w.alloc (.cells #[] 60)).cell? (ad.add j) = some u := by
      intro j u hu
      rcases Nat.eq_zero_or_pos n with h0 | h0
      · have hms : ms = [] := List.eq_nil_of_length_eq_zero (by rw [h.len]; exact h0)
        subst hms
        simp [flatC] at hu
      · obtain ⟨b, off, hA, -⟩ := h.mem h0
        cases hA
        have h1 := h.news rfl 0 (by omega) j u hu
        rw [Nat.zero_mul, Nat.add_zero] at h1
        rw [Addr.add_mid] at h1 ⊢
        rw [World.cell?_alloc_lt _ _ _ (World.block_lt_of_cell? w _ h1)]
        exact h1
    obtain ⟨v', w1, hrun, hown1, hgrow, _, hat⟩ := run_append_own_at (P := Tryd.prog) (w.alloc (.cells #[] 60)) w.heap.size 24 24 60 i0 (.agg Mb.zero.arr) 34 48 Tryd.underlying24 hi hz0 hz1 hz2 (Mb.size Mb.zero_ok) (by decide)
      (.slice (some ⟨w.heap.size, 0, none⟩) 0 0) 0 [] hown ad n cap (flatC Mb.cells ms) (by rw [flatC_length hok.len, h.len]) hnews
      (flatM_ones ms) (by simp only [maxLen]; omega) (by omega) (by simp)
    exact ⟨v', w1, hrun, by simpa using hown1, ((Below.refl _ _).alloc (Nat.le_refl _) _).grown hgrow (by simp) (fun k hk => by simp [Value.ownBlock] at hk; omega)⟩

/-- what stands in the boxes of Apply, beside its answer's -/
structure Ag (W : World) (ep : Int) (A : Option Addr) (n cap : Nat) (x : Chg) (g : Nat) (m : Mb) (w : World) : Prop where
  b : Below W.heap.size W w
  c : w.heap[W.heap.size]? = some (.cells #[.int .i64 ep, .slice A n cap] 26 (0, 0))
  x : w.heap[W.heap.size + 1]? = some (.cells x.arr 42 (0, 0))
  r : w.heap[W.heap.size + 2]? = some (.cells #[.int .i64 0, .slice none 0 0] 26 (0, 0))
  z : w.heap[W.heap.size + 3]? = some (.cells #[.int .i64 0, .slice none 0 0] 26 (0, 0))
  m : w.heap[g]? = some (.cells m.arr 60 (0, 0))
  g : W.heap.size + 4 ≤ g
theorem Ag.lt {W : World} {ep : Int} {A : Option Addr} {n cap : Nat} {x : Chg} {g : Nat} {m : Mb} {w : World} (h : Ag W ep A n cap x g m w) : g < w.heap.size := (Array.getElem?_eq_some_iff.1 h.m).1
theorem Ag.below {W : World} {ep : Int} {A : Option Addr} {n cap : Nat} {x : Chg} {g : Nat} {m : Mb} {w w' : World} (h : Ag W ep A n cap x g m w) (hb : Below w.heap.size w w') : Ag W ep A n cap x g m w' :=
  have l := h.lt; have k := h.g
  ⟨h.b.trans (hb.mono h.b.size), (hb.block _ (by omega)).trans h.c, (hb.block _ (by omega)).trans h.x, (hb.block _ (by omega)).trans h.r, (hb.block _ (by omega)).trans h.z, (hb.block _ l).trans h.m, h.g⟩
theorem Ag.facts {W : World} {ep : Int} {A : Option Addr} {n cap : Nat} {x : Chg} {g : Nat} {m : Mb} {w : World} (h : Ag W ep A n cap x g m w) (hm : m.ok) :
    (w.cell? ⟨W.heap.size, 0, none⟩ = some (.int .i64 ep) ∧ w.cell? ⟨W.heap.size, 1, none⟩ = some (.slice A n cap)) ∧ (w.cell? ⟨W.heap.size + 1, 0, none⟩ = some (.int .i64 x.kind) ∧ w.cell? ⟨W.heap.size + 1, 1, none⟩ = some (.int .i64 x.id) ∧ w.cell? ⟨W.heap.size + 1, 2, none⟩ = some (.int .i64 x.nw)) ∧
    (w.cell? ⟨W.heap.size + 1 + 1, 0, none⟩ = some (.int .i64 0) ∧ w.cell? ⟨W.heap.size + 1 + 1, 1, none⟩ = some (.slice none 0 0) ∧ w.frozen? ⟨W.heap.size + 1 + 1, 0, none⟩ = false ∧ w.frozen? ⟨W.heap.size + 1 + 1, 1, none⟩ = false) ∧
    (w.cell? ⟨W.heap.size + 1 + 1 + 1, 0, none⟩ = some (.int .i64 0) ∧ w.cell? ⟨W.heap.size + 1 + 1 + 1, 1, none⟩ = some (.slice none 0 0)) ∧ w.cell? ⟨g, 0, none⟩ = some (.int .i64 m.id) ∧ rowAt w g 0 34 = some m.arr :=
  ⟨⟨cell_of_row h.c rfl, cell_of_row h.c rfl⟩, ⟨cell_of_row h.x x.at0, cell_of_row h.x x.at1, cell_of_row h.x x.at2⟩, ⟨cell_of_row h.r rfl, cell_of_row h.r rfl, by simp [World.frozen?, h.r], by simp [World.frozen?, h.r]⟩, ⟨cell_of_row h.z rfl, cell_of_row h.z rfl⟩, cell_of_row h.m m.at0, by unfold rowAt; rw [h.m]; exact Mb.cut hm⟩
/-- the members behind a change, as the document tells -/
def ref8L (ms : List Mb) (x : Chg) : List Mb :=
  let l := if x.kind = 1 then ms else withoutM ms x.id
  if x.kind = 2 then l else withM l (memOf x)
def Ap08 (ep : Int) (ms : List Mb) (x : Chg) (w : World) (e : Ending) (w' : World) : Prop :=
  ∃ ep' A' m' c' L, e = .returned (.tuple #[.agg #[.int .i64 ep', .slice A' m' c'], .int .i64 (appE ep ms x)]) ∧ (appE ep ms x = 0 → ep' = ep + 1 ∧ L = ref8L ms x) ∧ w'.ownsRow w.heap.size 60 34 (.slice A' m' c') m' (flatC Mb.cells L) ∧ L.length = m' ∧ OkAll L ∧ Below w.heap.size w w'
theorem Ap08.no {ep : Int} {ms : List Mb} {x : Chg} {w w' : World} {E : Int} (he : appE ep ms x = E) (h0 : E ≠ 0) (hb : Below w.heap.size w w') : Ap08 ep ms x w (.returned (.tuple #[.agg #[.int .i64 0, .slice none 0 0], .int .i64 E])) w' :=
  ⟨0, none, 0, 0, [], by rw [he], fun h => absurd (he.symm.trans h) h0, World.ownsRow_nil _ _ _ _, rfl, fun m hm => absurd hm (by simp), hb⟩
theorem hasB_place {ms : List Mb} {id : Int} : (hasB ms id = false ∧ placeI ms id = -1) ∨ (hasB ms id = true ∧ ∃ k : Nat, placeI ms id = (k : Int)) := by
  rcases placeI_cases ms id with ⟨h1, h2⟩ | ⟨k, hk, h1, h2, -⟩
  · exact .inl ⟨hasB_none rfl h2, h1⟩
  · exact .inr ⟨hasB_of rfl hk h2, k, h1⟩
theorem withoutM_ok {ms : List Mb} {id : Int} (h : OkAll ms) : OkAll (withoutM ms id) := fun m hm => h m (List.mem_filter.1 hm).1
theorem withS_ok {x : Mb} (hx : x.ok) : ∀ (ms : List Mb) (s : List Mb × Bool), OkAll ms → OkAll s.1 → OkAll (ms.foldl (withSM x) s).1 := by
  intro ms
  induction ms with
  | nil => intro s _ hs; exact hs
  | cons y t ih =>
    intro s h hs
    rw [List.foldl_cons]
    refine ih _ (fun m hm => h m (List.mem_cons_of_mem _ hm)) ?_
    have hy := h y List.mem_cons_self
    unfold withSM withAM
    intro m hm
    simp only [List.mem_append, List.mem_singleton] at hm
    rcases hm with hm | rfl
    · split at hm
      · rcases List.mem_append.1 hm with hm | hm
        · exact hs m hm
        · rw [List.mem_singleton.1 hm]; exact hx
      · exact hs m hm
    · exact hy
theorem withM_ok {ms : List Mb} {x : Mb} (hx : x.ok) (h : OkAll ms) : OkAll (withM ms x) := by
  have h1 := withS_ok hx ms ([], false) h (fun m hm => absurd hm (by simp))
  unfold withM
  split
  · exact h1
  · intro m hm
    rcases List.mem_append.1 hm with hm | hm
    · exact h1 m hm
    · rw [List.mem_singleton.1 hm]; exact hx
theorem withS_len {x : Mb} : ∀ (ms : List Mb) (s : List Mb × Bool), (ms.foldl (withSM x) s).1.length ≤ s.1.length + 2 * ms.length := by
  intro ms
  induction ms with
  | nil => intro s; simp
  | cons y t ih =>
    intro s
    rw [List.foldl_cons]
    have := ih (withSM x s y)
    have h2 : (withSM x s y).1.length ≤ s.1.length + 2 := by
      unfold withSM withAM
      split <;> simp
    rw [List.length_cons]
    omega
theorem withM_len {ms : List Mb} {x : Mb} : (withM ms x).length ≤ 2 * ms.length + 1 := by
  have h1 := withS_len (x := x) ms ([], false)
  unfold withM
  split
  · simp at h1; omega
  · rw [List.length_append]; simp at h1 ⊢; omega
theorem withoutM_len {ms : List Mb} {id : Int} : (withoutM ms id).length ≤ ms.length := List.length_filter_le _ _
theorem good_ten {ep : Int} {ms : List Mb} (h : goodB ep ms = true) : ms.length ≤ 10 := by
  unfold goodB at h
  rw [Bool.and_eq_true, decide_eq_true_eq] at h
  exact h.1.2.2.2
theorem Ag.start (w : World) (ep : Int) (A : Option Addr) (n cap : Nat) (x : Chg) : ∀ w5, Below ((((w.alloc (.cells #[.int .i64 ep, .slice A n cap] 26)).alloc (.cells x.arr 42)).alloc (.cells #[.int .i64 0, .slice none 0 0] 26)).alloc (.cells #[.int .i64 0, .slice none 0 0] 26)).heap.size ((((w.alloc (.cells #[.int .i64 ep, .slice A n cap] 26)).alloc (.cells x.arr 42)).alloc (.cells #[.int .i64 0, .slice none 0 0] 26)).alloc (.cells #[.int .i64 0, .slice none 0 0] 26)) w5 → ∀ m : Mb, Ag w ep A n cap x w5.heap.size m (w5.alloc (.cells m.arr 60)) := fun w5 hb m => by
  have p1 : ∀ (w : World) (o : Obj) (k : Nat) (x : Obj), w.heap[k]? = some x → (w.alloc o).heap[k]? = some x := fun w o k x hx => (Below.heap_alloc w o k (Array.getElem?_eq_some_iff.1 hx).1).trans hx
  have hs : w.heap.size + 4 ≤ w5.heap.size := by have := hb.size; simp at this; omega
  have g1 := fun k (hk : k < w.heap.size + 4) => (Below.heap_alloc w5 (.cells m.arr 60) k (by omega)).trans (hb.block k (by simp; omega))
  refine ⟨?_, ?_, ?_, ?_, ?_, heap_alloc_new w5 _, by omega⟩
  · refine (((((Below.refl _ _).alloc (Nat.le_refl _) _).alloc (by simp) _).alloc (by simp; omega) _).alloc (by simp; omega) _).trans ((hb.mono (by simp; omega)).alloc (by omega) _)
  · rw [g1 _ (by omega)]; exact p1 _ _ _ _ (p1 _ _ _ _ (p1 _ _ _ _ (heap_alloc_new w _)))
  · rw [g1 _ (by omega)]; refine p1 _ _ _ _ (p1 _ _ _ _ ?_); have := heap_alloc_new (w.alloc (.cells #[.int .i64 ep, .slice A n cap] 26)) (.cells x.arr 42); simpa using this
  · rw [g1 _ (by omega)]; refine p1 _ _ _ _ ?_; have := heap_alloc_new ((w.alloc (.cells #[.int .i64 ep, .slice A n cap] 26)).alloc (.cells x.arr 42)) (.cells #[.int .i64 0, .slice none 0 0] 26); simpa using this
  · rw [g1 _ (by omega)]; have := heap_alloc_new (((w.alloc (.cells #[.int .i64 ep, .slice A n cap] 26)).alloc (.cells x.arr 42)).alloc (.cells #[.int .i64 0, .slice none 0 0] 26)) (.cells #[.int .i64 0, .slice none 0 0] 26); simpa using this
theorem Ag.id {W : World} {ep : Int} {A : Option Addr} {n cap : Nat} {x : Chg} {g : Nat} {i j : Int} {k : Kb} {w : World} (h : Ag W ep A n cap x g ⟨i, k⟩ w) : Ag W ep A n cap x g ⟨j, k⟩ (w.setCell ⟨g, 0, none⟩ (.int .i64 j)) := by
  have l := h.lt
  have k0 := h.g
  have hh : ∀ q, q ≠ g → (w.setCell ⟨g, 0, none⟩ (.int .i64 j)).heap[q]? = w.heap[q]? := fun q hq => heap_setCell_ne _ _ _ hq
  refine ⟨h.b.setCell (p := ⟨g, 0, none⟩) (by show W.heap.size ≤ g; omega) _, (hh _ (by omega)).trans h.c, (hh _ (by omega)).trans h.x, (hh _ (by omega)).trans h.r, (hh _ (by omega)).trans h.z, ?_, k0⟩
  have e1 := heap_setCell_same w g 0 _ _ (.int .i64 j) h.m
  rw [e1]
  rfl
set_option maxHeartbeats 8000000 in
theorem ap08_1 (ep : Int) (A : Option Addr) (n cap : Nat) (ms : List Mb) (x : Chg) (w : World) (h : MS w A n ms) (hs : SlOk A n) (hx : x.ok) (hk : x.kind = 1) (hg : goodB ep ms = true) (he : ep ≠ 1073741824) : Calls Tryd.prog 41 #[.agg #[.int .i64 ep, .slice A n cap], .agg x.arr] w (Ap08 ep ms x w) := by
  have hten : n ≤ 10 := by have := good_ten hg; have := h.len; omega
  have e01 := good_bounds h.len hg
  have e0 := e01.1
  have e1 := e01.2.1
  clear e01
  have hn10 : (n : Int) ≤ 10 := by omega
  have hne : (ep == 1073741824) = false := by rw [beq_eq_false_iff_ne]; exact he
  have hkk := hx.key
  have x0' : x.arr[0]? = some (.int .i64 1) := by rw [x.at0, hk]
  have x1' := x.at1
  have x2' := x.at2
  have xk' := Chg.cutKey hx
  have xs' : SizeIs x.arr 36 := Chg.size hx
  have xo' : oneCells x.arr = true := ones_of (chg_ones x)
  obtain ⟨w4, hw4⟩ : ∃ w4, (((w.alloc (.cells #[.int .i64 ep, .slice A n cap] 26)).alloc (.cells x.arr 42)).alloc (.cells #[.int .i64 0, .slice none 0 0] 26)).alloc (.cells #[.int .i64 0, .slice none 0 0] 26) = w4 := ⟨_, rfl⟩
  have hst := Ag.start w ep A n cap x
  rw [hw4] at hst
  have hS0 := hst w4 (Below.refl _ _) ⟨x.id, x.key⟩
  have hb4 : Below w.heap.size w w4 := by rw [← hw4]; exact ((((Below.refl _ _).alloc (Nat.le_refl _) _).alloc (by simp) _).alloc (by simp; omega) _).alloc (by simp; omega) _
  have hz4 : w4.heap.size = w.heap.size + 4 := by rw [← hw4]; simp
  have B4 : ∀ k, k < w.heap.size + 4 → (w4.alloc (.cells (Mb.arr ⟨x.id, x.key⟩) 60)).heap[k]? = w4.heap[k]? := fun k hk => Below.heap_alloc _ _ _ (by omega)
  have b0 : w4.cell? ⟨w.heap.size, 0, none⟩ = some (.int .i64 ep) := cell_of_row ((B4 _ (by omega)).symm.trans hS0.c) rfl
  have b1 : w4.cell? ⟨w.heap.size, 1, none⟩ = some (.slice A n cap) := cell_of_row ((B4 _ (by omega)).symm.trans hS0.c) rfl
  have H := Lib.hid (And.intro h (And.intro hs (And.intro hx (And.intro hg (And.intro he (And.intro hst (And.intro hb4 hz4)))))))
  clear h hs hg he hst hS0 hb4 hz4 B4
  go_enter Tryd.func41, Tryd.ntmps41
  go_wp2_with fail
  clear hw4
  refine (refGood_any ep A n cap ms _ (H.out.1.below H.out.2.2.2.2.2.2.1)).mono ?_
  rw [H.out.2.2.2.1]
  rintro e w5 ⟨rfl, hb5⟩
  have S6 := H.out.2.2.2.2.2.1 w5 hb5 ⟨x.id, x.key⟩
  have B5 : ∀ k, k < w.heap.size + 4 → (w5.alloc (.cells (Mb.arr ⟨x.id, x.key⟩) 60)).heap[k]? = w5.heap[k]? := fun k hk => Below.heap_alloc _ _ _ (by have := hb5.size; have := H.out.2.2.2.2.2.2.2; omega)
  have d0 : w5.cell? ⟨w.heap.size, 0, none⟩ = some (.int .i64 ep) := cell_of_row ((B5 _ (by omega)).symm.trans S6.c) rfl
  have d1 : w5.cell? ⟨w.heap.size + 1, 0, none⟩ = some (.int .i64 1) := cell_of_row ((B5 _ (by omega)).symm.trans S6.x) x0'
  have d2 : w5.cell? ⟨w.heap.size + 1, 1, none⟩ = some (.int .i64 x.id) := cell_of_row ((B5 _ (by omega)).symm.trans S6.x) x1'
  have d3 : rowAt w5 (w.heap.size + 1) 3 33 = some x.key.arr := by unfold rowAt; rw [(B5 _ (by omega)).symm.trans S6.x]; exact xk'
  have hmi : (⟨x.id, x.key⟩ : Mb).ok := ⟨hx.key, hx.id⟩
  have hms := Mb.sz hmi
  have hmo1 := Mb.ones (⟨x.id, x.key⟩ : Mb)
  obtain ⟨w6, hw6⟩ : ∃ w6, w5.alloc (.cells (Mb.arr ⟨x.id, x.key⟩) 60) = w6 := ⟨_, rfl⟩
  rw [hw6] at S6
  have S7 := S6
  have hmo := hmi
  obtain ⟨⟨c0, c1⟩, ⟨x0, x1, x2⟩, ⟨q0, q1, f0, f1⟩, ⟨z0, z1⟩, m0, mr⟩ := S7.facts hmo
  rw [hk] at x0
  have G := Lib.hid (And.intro S7 (And.intro (H.out.2.2.2.2.2.2.1.trans (hb5.mono H.out.2.2.2.2.2.2.1.size)) hmo))
  clear S6 S7 hb5 B5 b0 b1
  go_wp2_with fail
  clear hw6 d0 d1 d2 d3
  have hmem : memOf x = (⟨x.id, x.key⟩ : Mb) := by unfold memOf; rw [hk]; rfl
  have HM := Lib.hid hmem
  clear hmem
  refine (refRight_any hmo _).mono ?_
  rintro e w8 ⟨rfl, hb⟩
  clear c0 c1 x0 x1 x2 q0 q1 f0 f1 z0 z1 m0 mr
  have S9 := G.out.1.below hb
  obtain ⟨⟨c0, c1⟩, ⟨x0, x1, x2⟩, ⟨q0, q1, f0, f1⟩, ⟨z0, z1⟩, m0, mr⟩ := S9.facts hmo
  rw [hk] at x0
  have HS9 := Lib.hid S9
  clear S9 hb
  cases hr : rightB (⟨x.id, x.key⟩ : Mb) with
  | false =>
    have hE : appE ep ms x = 1 := by unfold appE; rw [if_pos ⟨H.out.2.2.2.1, by omega, by omega, H.out.2.2.2.2.1⟩]; rw [if_pos ⟨by omega, by rw [HM.out]; exact hr⟩]
    have HE := Lib.hid hE
    clear hE
    go_wp2_with fail
    refine bodyPost_ret (v := .tuple #[.agg #[.int .i64 0, .slice none 0 0], .int .i64 1]) (by rw [results_cell2 Tryd.results41]; simp [go_sem, *]) rfl ?_
    exact Ap08.no HE.out (by decide) ((HS9.out.b.setCell (p := ⟨w.heap.size + 1 + 1, 0, none⟩) (by simp; omega) _).setCell (p := ⟨w.heap.size + 1 + 1, 1, none⟩) (by simp; omega) _)
  | true =>
    have HR := Lib.hid hr
    go_wp2_with fail
    refine (place_any ep A n cap ms x.id _ (H.out.1.below HS9.out.b)).mono ?_
    rintro e w10 ⟨rfl, hb⟩
    clear c0 c1 x0 x1 x2 q0 q1 f0 f1 z0 z1 m0 mr
    have S11 := HS9.out.below hb
    obtain ⟨⟨c0, c1⟩, ⟨x0, x1, x2⟩, ⟨q0, q1, f0, f1⟩, ⟨z0, z1⟩, m0, mr⟩ := S11.facts hmo
    rw [hk] at x0
    have HS11 := Lib.hid S11
    clear S11 hb
    rcases hasB_place (ms := ms) (id := x.id) with ⟨hh2, hp2⟩ | ⟨hh2, pk2, hp2⟩
    case inr =>
      rw [hp2]
      have hpk2 : (0 : Int) ≤ pk2 := by omega
      have hE : appE ep ms x = 9 := by unfold appE; rw [if_pos ⟨H.out.2.2.2.1, by omega, by omega, H.out.2.2.2.2.1⟩]; rw [if_neg (by rw [HM.out, HR.out]; simp)]; rw [if_neg (by omega)]; rw [if_pos ⟨by omega, by rw [HM.out]; exact hh2⟩]
      have HE := Lib.hid hE
      clear hE
      go_wp2_with fail
      refine bodyPost_ret (v := .tuple #[.agg #[.int .i64 0, .slice none 0 0], .int .i64 9]) (by rw [results_cell2 Tryd.results41]; simp [go_sem, *]) rfl ?_
      exact Ap08.no HE.out (by decide) ((HS11.out.b.setCell (p := ⟨w.heap.size + 1 + 1, 0, none⟩) (by simp; omega) _).setCell (p := ⟨w.heap.size + 1 + 1, 1, none⟩) (by simp; omega) _)
    rw [hp2]
    have HQ := Lib.hid hh2
    clear hp2
    by_cases hl : n = 10
    · have hl' : ((n : Int) == 10) = true := by rw [beq_iff_eq]; omega
      have hl2 : (n == 10) = true := by rw [beq_iff_eq]; omega
      have hE : appE ep ms x = 11 := by unfold appE; rw [if_pos ⟨H.out.2.2.2.1, by omega, by omega, H.out.2.2.2.2.1⟩]; rw [if_neg (by rw [HM.out, HR.out]; simp)]; rw [if_neg (by omega)]; rw [if_neg (by rw [HM.out, HQ.out]; simp)]; rw [if_pos ⟨hk, by rw [H.out.1.len]; exact hl⟩]
      have HE := Lib.hid hE
      clear hE
      go_wp2_with fail
      refine bodyPost_ret (v := .tuple #[.agg #[.int .i64 0, .slice none 0 0], .int .i64 11]) (by rw [results_cell2 Tryd.results41]; simp [go_sem, *]) rfl ?_
      exact Ap08.no HE.out (by decide) ((HS11.out.b.setCell (p := ⟨w.heap.size + 1 + 1, 0, none⟩) (by simp; omega) _).setCell (p := ⟨w.heap.size + 1 + 1, 1, none⟩) (by simp; omega) _)
    have hl' : ((n : Int) == 10) = false := by rw [beq_eq_false_iff_ne]; omega
    have hl2 : (n == 10) = false := by rw [beq_eq_false_iff_ne]; omega
    have hE : appE ep ms x = 0 := by unfold appE; rw [if_pos ⟨H.out.2.2.2.1, by omega, by omega, H.out.2.2.2.2.1⟩]; rw [if_neg (by rw [HM.out, HR.out]; simp)]; rw [if_neg (by omega)]; rw [if_neg (by rw [HM.out, HQ.out]; simp)]; rw [if_neg (by rw [H.out.1.len]; omega)]; rw [if_neg (by omega)]
    have HE := Lib.hid hE
    clear hE
    go_wp2_with fail
    refine (with08_any A n cap ms (⟨x.id, x.key⟩ : Mb) hmo _ (H.out.1.below HS11.out.b) (by omega)).mono ?_
    rintro e w12 ⟨A2, cp2, rfl, hown, hb⟩
    obtain ⟨n2, hn2⟩ : ∃ n2, (withM ms (⟨x.id, x.key⟩ : Mb)).length = n2 := ⟨_, rfl⟩
    rw [hn2] at hown ⊢
    have hl2 : n2 ≤ 21 := by have := withM_len (ms := ms) (x := (⟨x.id, x.key⟩ : Mb)); have := H.out.1.len; omega
    obtain ⟨A2', cp2', hv2, M2⟩ := MS_of_own hown (withM_ok hmo H.out.1.ok) (by omega)
    cases hv2
    obtain ⟨_, _, hv2, so2, -⟩ := own_shape hown
    cases hv2
    clear c0 c1 x0 x1 x2 q0 q1 f0 f1 z0 z1 m0 mr
    have S13 := HS11.out.below hb
    obtain ⟨⟨c0, c1⟩, ⟨x0, x1, x2⟩, ⟨q0, q1, f0, f1⟩, ⟨z0, z1⟩, m0, mr⟩ := S13.facts hmo
    rw [hk] at x0
    have HS13 := Lib.hid S13
    clear S13 hb
    have HO2 := Lib.hid (And.intro M2 (And.intro so2 hn2))
    clear M2 so2 hn2 hown
    have wdr : w12.drew.heap.size = w12.heap.size := rfl
    obtain ⟨v9, w9, hrun9, hown9, hb9⟩ := full_M cp2 (w := w12.drew) (HO2.out.1.below (Below.refl _ _).drew) HO2.out.2.1 (by omega)
    obtain ⟨A9, c9, rfl, so9, -⟩ := own_shape hown9
    have T := HS13.out.below ((Below.refl _ _).drew)
    have Ta : Ag w ep A n cap x w5.heap.size (⟨x.id, x.key⟩ : Mb) (w12.alloc (.cells #[] 60)).drew := HS13.out.below (((Below.refl _ _).alloc (Nat.le_refl _) (.cells #[] 60)).drew)
    have Tb := T.below hb9
    replace hrun9 : (apRow #[24, 24] 24 #[.slice (some ⟨w12.heap.size, 0, none⟩) 0 0, .slice A2 n2 cp2]).run Tryd.prog (w12.alloc (.cells #[] 60)).drew = .ok (.slice A9 n2 c9) w9 := hrun9
    obtain ⟨⟨t0, t1⟩, -, ⟨t2, t3, t4, t5⟩, -⟩ := T.facts hmo
    obtain ⟨⟨ta0, ta1⟩, -, ⟨ta2, ta3, ta4, ta5⟩, -⟩ := Ta.facts hmo
    obtain ⟨⟨tb0, tb1⟩, -, ⟨tb2, tb3, tb4, tb5⟩, -⟩ := Tb.facts hmo
    have hwi : IntKind.i64.wrap (ep + 1) = ep + 1 := by rw [IntKind.wrap_i64]; omega
    have hw64 : wrap64 (ep + 1) = ep + 1 := by unfold wrap64; omega
    have F := Lib.hid (And.intro hown9 (And.intro Tb Ta))
    clear hown9 T Ta Tb hb9 so9
    go_wp2_with fail
    go_region
    go_wp2_with fail
    refine bodyPost_ret (v := .tuple #[.agg #[.int .i64 (ep + 1), .slice A9 n2 c9], .int .i64 0]) (by rw [results_cell2 Tryd.results41]; simp [go_sem, *]) rfl ?_
    have mv : Mv (· = w.heap.size + 1 + 1) w9 ((w9.setCell ⟨w.heap.size + 1 + 1, 0, none⟩ (.int .i64 (ep + 1))).setCell ⟨w.heap.size + 1 + 1, 1, none⟩ (.slice A9 n2 c9)) := (Mv.setCell (fp := (· = w.heap.size + 1 + 1)) _ _ _ rfl).trans (Mv.setCell (fp := (· = w.heap.size + 1 + 1)) _ _ _ rfl) (fun _ _ c => c)
    have hwl : w.heap.size + 4 ≤ w12.heap.size := by have := F.out.2.2.b.size; have := HS13.out.g; have := HS13.out.lt; omega
    refine ⟨ep + 1, A9, n2, c9, (withM ms (⟨x.id, x.key⟩ : Mb)), by rw [HE.out], fun _ => ⟨rfl, ?_⟩, ?_, ?_, ?_, F.out.2.1.b.trans ((mv.below (B := w.heap.size) F.out.2.1.b.size (fun i hi => by omega)))⟩
    · unfold ref8L; rw [HM.out, hk]; rfl
    · exact own_mono (own_mv F.out.1 mv (fun g hg e => by have := (own_lt F.out.1 hg).1; have : w12.drew.heap.size = w12.heap.size := rfl; omega)) (Nat.le_trans (by omega) hwl)
    · exact HO2.out.2.2
    · exact (withM_ok hmo H.out.1.ok)
set_option maxHeartbeats 8000000 in
theorem ap08_2 (ep : Int) (A : Option Addr) (n cap : Nat) (ms : List Mb) (x : Chg) (w : World) (h : MS w A n ms) (hs : SlOk A n) (hx : x.ok) (hk : x.kind = 2) (hg : goodB ep ms = true) (he : ep ≠ 1073741824) : Calls Tryd.prog 41 #[.agg #[.int .i64 ep, .slice A n cap], .agg x.arr] w (Ap08 ep ms x w) := by
  have hten : n ≤ 10 := by have := good_ten hg; have := h.len; omega
  have e01 := good_bounds h.len hg
  have e0 := e01.1
  have e1 := e01.2.1
  clear e01
  have hn10 : (n : Int) ≤ 10 := by omega
  have hne : (ep == 1073741824) = false := by rw [beq_eq_false_iff_ne]; exact he
  have hkk := hx.key
  have x0' : x.arr[0]? = some (.int .i64 2) := by rw [x.at0, hk]
  have x1' := x.at1
  have x2' := x.at2
  have xk' := Chg.cutKey hx
  have xs' : SizeIs x.arr 36 := Chg.size hx
  have xo' : oneCells x.arr = true := ones_of (chg_ones x)
  obtain ⟨w4, hw4⟩ : ∃ w4, (((w.alloc (.cells #[.int .i64 ep, .slice A n cap] 26)).alloc (.cells x.arr 42)).alloc (.cells #[.int .i64 0, .slice none 0 0] 26)).alloc (.cells #[.int .i64 0, .slice none 0 0] 26) = w4 := ⟨_, rfl⟩
  have hst := Ag.start w ep A n cap x
  rw [hw4] at hst
  have hS0 := hst w4 (Below.refl _ _) ⟨x.id, x.key⟩
  have hb4 : Below w.heap.size w w4 := by rw [← hw4]; exact ((((Below.refl _ _).alloc (Nat.le_refl _) _).alloc (by simp) _).alloc (by simp; omega) _).alloc (by simp; omega) _
  have hz4 : w4.heap.size = w.heap.size + 4 := by rw [← hw4]; simp
  have B4 : ∀ k, k < w.heap.size + 4 → (w4.alloc (.cells (Mb.arr ⟨x.id, x.key⟩) 60)).heap[k]? = w4.heap[k]? := fun k hk => Below.heap_alloc _ _ _ (by omega)
  have b0 : w4.cell? ⟨w.heap.size, 0, none⟩ = some (.int .i64 ep) := cell_of_row ((B4 _ (by omega)).symm.trans hS0.c) rfl
  have b1 : w4.cell? ⟨w.heap.size, 1, none⟩ = some (.slice A n cap) := cell_of_row ((B4 _ (by omega)).symm.trans hS0.c) rfl
  have H := Lib.hid (And.intro h (And.intro hs (And.intro hx (And.intro hg (And.intro he (And.intro hst (And.intro hb4 hz4)))))))
  clear h hs hg he hst hS0 hb4 hz4 B4
  go_enter Tryd.func41, Tryd.ntmps41
  go_wp2_with fail
  clear hw4
  refine (refGood_any ep A n cap ms _ (H.out.1.below H.out.2.2.2.2.2.2.1)).mono ?_
  rw [H.out.2.2.2.1]
  rintro e w5 ⟨rfl, hb5⟩
  have S6 := H.out.2.2.2.2.2.1 w5 hb5 ⟨x.id, x.key⟩
  have B5 : ∀ k, k < w.heap.size + 4 → (w5.alloc (.cells (Mb.arr ⟨x.id, x.key⟩) 60)).heap[k]? = w5.heap[k]? := fun k hk => Below.heap_alloc _ _ _ (by have := hb5.size; have := H.out.2.2.2.2.2.2.2; omega)
  have d0 : w5.cell? ⟨w.heap.size, 0, none⟩ = some (.int .i64 ep) := cell_of_row ((B5 _ (by omega)).symm.trans S6.c) rfl
  have d1 : w5.cell? ⟨w.heap.size + 1, 0, none⟩ = some (.int .i64 2) := cell_of_row ((B5 _ (by omega)).symm.trans S6.x) x0'
  have d2 : w5.cell? ⟨w.heap.size + 1, 1, none⟩ = some (.int .i64 x.id) := cell_of_row ((B5 _ (by omega)).symm.trans S6.x) x1'
  have d3 : rowAt w5 (w.heap.size + 1) 3 33 = some x.key.arr := by unfold rowAt; rw [(B5 _ (by omega)).symm.trans S6.x]; exact xk'
  have hmi : (⟨x.id, x.key⟩ : Mb).ok := ⟨hx.key, hx.id⟩
  have hms := Mb.sz hmi
  have hmo1 := Mb.ones (⟨x.id, x.key⟩ : Mb)
  obtain ⟨w6, hw6⟩ : ∃ w6, w5.alloc (.cells (Mb.arr ⟨x.id, x.key⟩) 60) = w6 := ⟨_, rfl⟩
  rw [hw6] at S6
  have S7 := S6
  have hmo := hmi
  obtain ⟨⟨c0, c1⟩, ⟨x0, x1, x2⟩, ⟨q0, q1, f0, f1⟩, ⟨z0, z1⟩, m0, mr⟩ := S7.facts hmo
  rw [hk] at x0
  have G := Lib.hid (And.intro S7 (And.intro (H.out.2.2.2.2.2.2.1.trans (hb5.mono H.out.2.2.2.2.2.2.1.size)) hmo))
  clear S6 S7 hb5 B5 b0 b1
  go_wp2_with fail
  clear hw6 d0 d1 d2 d3
  have hmem : memOf x = (⟨x.id, x.key⟩ : Mb) := by unfold memOf; rw [hk]; rfl
  have HM := Lib.hid hmem
  clear hmem
  refine (place_any ep A n cap ms x.id _ (H.out.1.below G.out.1.b)).mono ?_
  rintro e w8 ⟨rfl, hb⟩
  clear c0 c1 x0 x1 x2 q0 q1 f0 f1 z0 z1 m0 mr
  have S9 := G.out.1.below hb
  obtain ⟨⟨c0, c1⟩, ⟨x0, x1, x2⟩, ⟨q0, q1, f0, f1⟩, ⟨z0, z1⟩, m0, mr⟩ := S9.facts hmo
  rw [hk] at x0
  have HS9 := Lib.hid S9
  clear S9 hb
  rcases hasB_place (ms := ms) (id := x.id) with ⟨hh, hp⟩ | ⟨hh, pk, hp⟩
  · rw [hp]
    have hE : appE ep ms x = 7 := by unfold appE; rw [if_pos ⟨H.out.2.2.2.1, by omega, by omega, H.out.2.2.2.2.1⟩]; rw [if_neg (by omega)]; rw [if_pos ⟨by omega, hh⟩]
    have HE := Lib.hid hE
    clear hE
    go_wp2_with fail
    refine bodyPost_ret (v := .tuple #[.agg #[.int .i64 0, .slice none 0 0], .int .i64 7]) (by rw [results_cell2 Tryd.results41]; simp [go_sem, *]) rfl ?_
    exact Ap08.no HE.out (by decide) ((HS9.out.b.setCell (p := ⟨w.heap.size + 1 + 1, 0, none⟩) (by simp; omega) _).setCell (p := ⟨w.heap.size + 1 + 1, 1, none⟩) (by simp; omega) _)
  rw [hp]
  have hpk : (0 : Int) ≤ pk := by omega
  have HP := Lib.hid hh
  clear hp
  by_cases hl : n = 1
  · have hl' : ((n : Int) == 1) = true := by rw [beq_iff_eq]; omega
    have hl2 : (n == 1) = true := by rw [beq_iff_eq]; omega
    have hE : appE ep ms x = 10 := by unfold appE; rw [if_pos ⟨H.out.2.2.2.1, by omega, by omega, H.out.2.2.2.2.1⟩]; rw [if_neg (by omega)]; rw [if_neg (by rw [HP.out]; simp)]; rw [if_neg (by omega)]; rw [if_neg (by omega)]; rw [if_pos ⟨hk, by rw [H.out.1.len]; exact hl⟩]
    have HE := Lib.hid hE
    clear hE
    go_wp2_with fail
    refine bodyPost_ret (v := .tuple #[.agg #[.int .i64 0, .slice none 0 0], .int .i64 10]) (by rw [results_cell2 Tryd.results41]; simp [go_sem, *]) rfl ?_
    exact Ap08.no HE.out (by decide) ((HS9.out.b.setCell (p := ⟨w.heap.size + 1 + 1, 0, none⟩) (by simp; omega) _).setCell (p := ⟨w.heap.size + 1 + 1, 1, none⟩) (by simp; omega) _)
  have hl' : ((n : Int) == 1) = false := by rw [beq_eq_false_iff_ne]; omega
  have hl2 : (n == 1) = false := by rw [beq_eq_false_iff_ne]; omega
  have hE : appE ep ms x = 0 := by unfold appE; rw [if_pos ⟨H.out.2.2.2.1, by omega, by omega, H.out.2.2.2.2.1⟩]; rw [if_neg (by omega)]; rw [if_neg (by rw [HP.out]; simp)]; rw [if_neg (by omega)]; rw [if_neg (by omega)]; rw [if_neg (by rw [H.out.1.len]; omega)]
  have HE := Lib.hid hE
  clear hE
  go_wp2_with fail
  refine (without08_any A n cap ms x.id _ (H.out.1.below HS9.out.b) (by omega)).mono ?_
  rintro e w10 ⟨A1, cp1, rfl, hown, hb⟩
  obtain ⟨n1, hn1⟩ : ∃ n1, (withoutM ms x.id).length = n1 := ⟨_, rfl⟩
  rw [hn1] at hown ⊢
  have hl1 : n1 ≤ 10 := by have := withoutM_len (ms := ms) (id := x.id); have := H.out.1.len; omega
  obtain ⟨A1', cp1', hv1, M1⟩ := MS_of_own hown (withoutM_ok H.out.1.ok) (by omega)
  cases hv1
  obtain ⟨_, _, hv1, so1, -⟩ := own_shape hown
  cases hv1
  clear c0 c1 x0 x1 x2 q0 q1 f0 f1 z0 z1 m0 mr
  have S11 := HS9.out.below hb
  obtain ⟨⟨c0, c1⟩, ⟨x0, x1, x2⟩, ⟨q0, q1, f0, f1⟩, ⟨z0, z1⟩, m0, mr⟩ := S11.facts hmo
  rw [hk] at x0
  have HS11 := Lib.hid S11
  clear S11 hb
  have HO1 := Lib.hid (And.intro M1 (And.intro so1 hn1))
  clear M1 so1 hn1 hown
  go_wp2_with fail
  have wdr : w10.drew.heap.size = w10.heap.size := rfl
  obtain ⟨v9, w9, hrun9, hown9, hb9⟩ := full_M cp1 (w := w10.drew) (HO1.out.1.below (Below.refl _ _).drew) HO1.out.2.1 (by omega)
  obtain ⟨A9, c9, rfl, so9, -⟩ := own_shape hown9
  have T := HS11.out.below ((Below.refl _ _).drew)
  have Ta : Ag w ep A n cap x w5.heap.size (⟨x.id, x.key⟩ : Mb) (w10.alloc (.cells #[] 60)).drew := HS11.out.below (((Below.refl _ _).alloc (Nat.le_refl _) (.cells #[] 60)).drew)
  have Tb := T.below hb9
  replace hrun9 : (apRow #[24, 24] 24 #[.slice (some ⟨w10.heap.size, 0, none⟩) 0 0, .slice A1 n1 cp1]).run Tryd.prog (w10.alloc (.cells #[] 60)).drew = .ok (.slice A9 n1 c9) w9 := hrun9
  obtain ⟨⟨t0, t1⟩, -, ⟨t2, t3, t4, t5⟩, -⟩ := T.facts hmo
  obtain ⟨⟨ta0, ta1⟩, -, ⟨ta2, ta3, ta4, ta5⟩, -⟩ := Ta.facts hmo
  obtain ⟨⟨tb0, tb1⟩, -, ⟨tb2, tb3, tb4, tb5⟩, -⟩ := Tb.facts hmo
  have hwi : IntKind.i64.wrap (ep + 1) = ep + 1 := by rw [IntKind.wrap_i64]; omega
  have hw64 : wrap64 (ep + 1) = ep + 1 := by unfold wrap64; omega
  have F := Lib.hid (And.intro hown9 (And.intro Tb Ta))
  clear hown9 T Ta Tb hb9 so9
  go_wp2_with fail
  go_region
  go_wp2_with fail
  refine bodyPost_ret (v := .tuple #[.agg #[.int .i64 (ep + 1), .slice A9 n1 c9], .int .i64 0]) (by rw [results_cell2 Tryd.results41]; simp [go_sem, *]) rfl ?_
  have mv : Mv (· = w.heap.size + 1 + 1) w9 ((w9.setCell ⟨w.heap.size + 1 + 1, 0, none⟩ (.int .i64 (ep + 1))).setCell ⟨w.heap.size + 1 + 1, 1, none⟩ (.slice A9 n1 c9)) := (Mv.setCell (fp := (· = w.heap.size + 1 + 1)) _ _ _ rfl).trans (Mv.setCell (fp := (· = w.heap.size + 1 + 1)) _ _ _ rfl) (fun _ _ c => c)
  have hwl : w.heap.size + 4 ≤ w10.heap.size := by have := F.out.2.2.b.size; have := HS11.out.g; have := HS11.out.lt; omega
  refine ⟨ep + 1, A9, n1, c9, (withoutM ms x.id), by rw [HE.out], fun _ => ⟨rfl, ?_⟩, ?_, ?_, ?_, F.out.2.1.b.trans ((mv.below (B := w.heap.size) F.out.2.1.b.size (fun i hi => by omega)))⟩
  · unfold ref8L; rw [HM.out, hk]; rfl
  · exact own_mono (own_mv F.out.1 mv (fun g hg e => by have := (own_lt F.out.1 hg).1; have : w10.drew.heap.size = w10.heap.size := rfl; omega)) (Nat.le_trans (by omega) hwl)
  · exact HO1.out.2.2
  · exact (withoutM_ok H.out.1.ok)
set_option maxHeartbeats 8000000 in
theorem ap08_3 (ep : Int) (A : Option Addr) (n cap : Nat) (ms : List Mb) (x : Chg) (w : World) (h : MS w A n ms) (hs : SlOk A n) (hx : x.ok) (hk : x.kind = 3) (hg : goodB ep ms = true) (he : ep ≠ 1073741824) : Calls Tryd.prog 41 #[.agg #[.int .i64 ep, .slice A n cap], .agg x.arr] w (Ap08 ep ms x w) := by
  have hten : n ≤ 10 := by have := good_ten hg; have := h.len; omega
  have e01 := good_bounds h.len hg
  have e0 := e01.1
  have e1 := e01.2.1
  clear e01
  have hn10 : (n : Int) ≤ 10 := by omega
  have hne : (ep == 1073741824) = false := by rw [beq_eq_false_iff_ne]; exact he
  have hkk := hx.key
  have x0' : x.arr[0]? = some (.int .i64 3) := by rw [x.at0, hk]
  have x1' := x.at1
  have x2' := x.at2
  have xk' := Chg.cutKey hx
  have xs' : SizeIs x.arr 36 := Chg.size hx
  have xo' : oneCells x.arr = true := ones_of (chg_ones x)
  obtain ⟨w4, hw4⟩ : ∃ w4, (((w.alloc (.cells #[.int .i64 ep, .slice A n cap] 26)).alloc (.cells x.arr 42)).alloc (.cells #[.int .i64 0, .slice none 0 0] 26)).alloc (.cells #[.int .i64 0, .slice none 0 0] 26) = w4 := ⟨_, rfl⟩
  have hst := Ag.start w ep A n cap x
  rw [hw4] at hst
  have hS0 := hst w4 (Below.refl _ _) ⟨x.id, x.key⟩
  have hb4 : Below w.heap.size w w4 := by rw [← hw4]; exact ((((Below.refl _ _).alloc (Nat.le_refl _) _).alloc (by simp) _).alloc (by simp; omega) _).alloc (by simp; omega) _
  have hz4 : w4.heap.size = w.heap.size + 4 := by rw [← hw4]; simp
  have B4 : ∀ k, k < w.heap.size + 4 → (w4.alloc (.cells (Mb.arr ⟨x.id, x.key⟩) 60)).heap[k]? = w4.heap[k]? := fun k hk => Below.heap_alloc _ _ _ (by omega)
  have b0 : w4.cell? ⟨w.heap.size, 0, none⟩ = some (.int .i64 ep) := cell_of_row ((B4 _ (by omega)).symm.trans hS0.c) rfl
  have b1 : w4.cell? ⟨w.heap.size, 1, none⟩ = some (.slice A n cap) := cell_of_row ((B4 _ (by omega)).symm.trans hS0.c) rfl
  have H := Lib.hid (And.intro h (And.intro hs (And.intro hx (And.intro hg (And.intro he (And.intro hst (And.intro hb4 hz4)))))))
  clear h hs hg he hst hS0 hb4 hz4 B4
  go_enter Tryd.func41, Tryd.ntmps41
  go_wp2_with fail
  clear hw4
  refine (refGood_any ep A n cap ms _ (H.out.1.below H.out.2.2.2.2.2.2.1)).mono ?_
  rw [H.out.2.2.2.1]
  rintro e w5 ⟨rfl, hb5⟩
  have S6 := H.out.2.2.2.2.2.1 w5 hb5 ⟨x.id, x.key⟩
  have B5 : ∀ k, k < w.heap.size + 4 → (w5.alloc (.cells (Mb.arr ⟨x.id, x.key⟩) 60)).heap[k]? = w5.heap[k]? := fun k hk => Below.heap_alloc _ _ _ (by have := hb5.size; have := H.out.2.2.2.2.2.2.2; omega)
  have d0 : w5.cell? ⟨w.heap.size, 0, none⟩ = some (.int .i64 ep) := cell_of_row ((B5 _ (by omega)).symm.trans S6.c) rfl
  have d1 : w5.cell? ⟨w.heap.size + 1, 0, none⟩ = some (.int .i64 3) := cell_of_row ((B5 _ (by omega)).symm.trans S6.x) x0'
  have d2 : w5.cell? ⟨w.heap.size + 1, 1, none⟩ = some (.int .i64 x.id) := cell_of_row ((B5 _ (by omega)).symm.trans S6.x) x1'
  have d3 : rowAt w5 (w.heap.size + 1) 3 33 = some x.key.arr := by unfold rowAt; rw [(B5 _ (by omega)).symm.trans S6.x]; exact xk'
  have hmi : (⟨x.id, x.key⟩ : Mb).ok := ⟨hx.key, hx.id⟩
  have hms := Mb.sz hmi
  have hmo1 := Mb.ones (⟨x.id, x.key⟩ : Mb)
  obtain ⟨w6, hw6⟩ : ∃ w6, w5.alloc (.cells (Mb.arr ⟨x.id, x.key⟩) 60) = w6 := ⟨_, rfl⟩
  rw [hw6] at S6
  have g0 : w6.cell? ⟨w5.heap.size, 0, none⟩ = some (.int .i64 x.id) := cell_of_row S6.m (Mb.at0 _)
  have g1 : w6.frozen? ⟨w5.heap.size, 0, none⟩ = false := by simp [World.frozen?, S6.m]
  have g2 : w6.cell? ⟨w.heap.size + 1, 0, none⟩ = some (.int .i64 3) := cell_of_row S6.x x0'
  have g3 : w6.cell? ⟨w.heap.size + 1, 2, none⟩ = some (.int .i64 x.nw) := cell_of_row S6.x x2'
  have S7 := S6.id (j := x.nw)
  obtain ⟨w7, hw7⟩ : ∃ w7, w6.setCell ⟨w5.heap.size, 0, none⟩ (.int .i64 x.nw) = w7 := ⟨_, rfl⟩
  rw [hw7] at S7
  have hmo : (⟨x.nw, x.key⟩ : Mb).ok := ⟨hx.key, hx.nw⟩
  obtain ⟨⟨c0, c1⟩, ⟨x0, x1, x2⟩, ⟨q0, q1, f0, f1⟩, ⟨z0, z1⟩, m0, mr⟩ := S7.facts hmo
  rw [hk] at x0
  have G := Lib.hid (And.intro S7 (And.intro (H.out.2.2.2.2.2.2.1.trans (hb5.mono H.out.2.2.2.2.2.2.1.size)) hmo))
  clear S6 S7 hb5 B5 b0 b1
  go_wp2_with fail
  clear hw6 d0 d1 d2 d3 hw7 g0 g1 g2 g3
  have hmem : memOf x = (⟨x.nw, x.key⟩ : Mb) := by unfold memOf; rw [hk]; rfl
  have HM := Lib.hid hmem
  clear hmem
  refine (refRight_any hmo _).mono ?_
  rintro e w8 ⟨rfl, hb⟩
  clear c0 c1 x0 x1 x2 q0 q1 f0 f1 z0 z1 m0 mr
  have S9 := G.out.1.below hb
  obtain ⟨⟨c0, c1⟩, ⟨x0, x1, x2⟩, ⟨q0, q1, f0, f1⟩, ⟨z0, z1⟩, m0, mr⟩ := S9.facts hmo
  rw [hk] at x0
  have HS9 := Lib.hid S9
  clear S9 hb
  cases hr : rightB (⟨x.nw, x.key⟩ : Mb) with
  | false =>
    have hE : appE ep ms x = 1 := by unfold appE; rw [if_pos ⟨H.out.2.2.2.1, by omega, by omega, H.out.2.2.2.2.1⟩]; rw [if_pos ⟨by omega, by rw [HM.out]; exact hr⟩]
    have HE := Lib.hid hE
    clear hE
    go_wp2_with fail
    refine bodyPost_ret (v := .tuple #[.agg #[.int .i64 0, .slice none 0 0], .int .i64 1]) (by rw [results_cell2 Tryd.results41]; simp [go_sem, *]) rfl ?_
    exact Ap08.no HE.out (by decide) ((HS9.out.b.setCell (p := ⟨w.heap.size + 1 + 1, 0, none⟩) (by simp; omega) _).setCell (p := ⟨w.heap.size + 1 + 1, 1, none⟩) (by simp; omega) _)
  | true =>
    have HR := Lib.hid hr
    go_wp2_with fail
    refine (place_any ep A n cap ms x.id _ (H.out.1.below HS9.out.b)).mono ?_
    rintro e w10 ⟨rfl, hb⟩
    clear c0 c1 x0 x1 x2 q0 q1 f0 f1 z0 z1 m0 mr
    have S11 := HS9.out.below hb
    obtain ⟨⟨c0, c1⟩, ⟨x0, x1, x2⟩, ⟨q0, q1, f0, f1⟩, ⟨z0, z1⟩, m0, mr⟩ := S11.facts hmo
    rw [hk] at x0
    have HS11 := Lib.hid S11
    clear S11 hb
    rcases hasB_place (ms := ms) (id := x.id) with ⟨hh, hp⟩ | ⟨hh, pk, hp⟩
    · rw [hp]
      have hE : appE ep ms x = 7 := by unfold appE; rw [if_pos ⟨H.out.2.2.2.1, by omega, by omega, H.out.2.2.2.2.1⟩]; rw [if_neg (by rw [HM.out, HR.out]; simp)]; rw [if_pos ⟨by omega, hh⟩]
      have HE := Lib.hid hE
      clear hE
      go_wp2_with fail
      refine bodyPost_ret (v := .tuple #[.agg #[.int .i64 0, .slice none 0 0], .int .i64 7]) (by rw [results_cell2 Tryd.results41]; simp [go_sem, *]) rfl ?_
      exact Ap08.no HE.out (by decide) ((HS11.out.b.setCell (p := ⟨w.heap.size + 1 + 1, 0, none⟩) (by simp; omega) _).setCell (p := ⟨w.heap.size + 1 + 1, 1, none⟩) (by simp; omega) _)
    rw [hp]
    have hpk : (0 : Int) ≤ pk := by omega
    have HP := Lib.hid hh
    clear hp
    go_wp2_with fail
    refine (place_any ep A n cap ms x.nw _ (H.out.1.below HS11.out.b)).mono ?_
    rintro e w12 ⟨rfl, hb⟩
    clear c0 c1 x0 x1 x2 q0 q1 f0 f1 z0 z1 m0 mr
    have S13 := HS11.out.below hb
    obtain ⟨⟨c0, c1⟩, ⟨x0, x1, x2⟩, ⟨q0, q1, f0, f1⟩, ⟨z0, z1⟩, m0, mr⟩ := S13.facts hmo
    rw [hk] at x0
    have HS13 := Lib.hid S13
    clear S13 hb
    rcases hasB_place (ms := ms) (id := x.nw) with ⟨hh2, hp2⟩ | ⟨hh2, pk2, hp2⟩
    case inr =>
      rw [hp2]
      have hpk2 : (0 : Int) ≤ pk2 := by omega
      have hE : appE ep ms x = 9 := by unfold appE; rw [if_pos ⟨H.out.2.2.2.1, by omega, by omega, H.out.2.2.2.2.1⟩]; rw [if_neg (by rw [HM.out, HR.out]; simp)]; rw [if_neg (by rw [HP.out]; simp)]; rw [if_pos ⟨by omega, by rw [HM.out]; exact hh2⟩]
      have HE := Lib.hid hE
      clear hE
      go_wp2_with fail
      refine bodyPost_ret (v := .tuple #[.agg #[.int .i64 0, .slice none 0 0], .int .i64 9]) (by rw [results_cell2 Tryd.results41]; simp [go_sem, *]) rfl ?_
      exact Ap08.no HE.out (by decide) ((HS13.out.b.setCell (p := ⟨w.heap.size + 1 + 1, 0, none⟩) (by simp; omega) _).setCell (p := ⟨w.heap.size + 1 + 1, 1, none⟩) (by simp; omega) _)
    rw [hp2]
    have HQ := Lib.hid hh2
    clear hp2
    have hE : appE ep ms x = 0 := by unfold appE; rw [if_pos ⟨H.out.2.2.2.1, by omega, by omega, H.out.2.2.2.2.1⟩]; rw [if_neg (by rw [HM.out, HR.out]; simp)]; rw [if_neg (by rw [HP.out]; simp)]; rw [if_neg (by rw [HM.out, HQ.out]; simp)]; rw [if_neg (by omega)]; rw [if_neg (by omega)]
    have HE := Lib.hid hE
    clear hE
    go_wp2_with fail
    refine (without08_any A n cap ms x.id _ (H.out.1.below HS13.out.b) (by omega)).mono ?_
    rintro e w14 ⟨A1, cp1, rfl, hown, hb⟩
    obtain ⟨n1, hn1⟩ : ∃ n1, (withoutM ms x.id).length = n1 := ⟨_, rfl⟩
    rw [hn1] at hown ⊢
    have hl1 : n1 ≤ 10 := by have := withoutM_len (ms := ms) (id := x.id); have := H.out.1.len; omega
    obtain ⟨A1', cp1', hv1, M1⟩ := MS_of_own hown (withoutM_ok H.out.1.ok) (by omega)
    cases hv1
    obtain ⟨_, _, hv1, so1, -⟩ := own_shape hown
    cases hv1
    clear c0 c1 x0 x1 x2 q0 q1 f0 f1 z0 z1 m0 mr
    have S15 := HS13.out.below hb
    obtain ⟨⟨c0, c1⟩, ⟨x0, x1, x2⟩, ⟨q0, q1, f0, f1⟩, ⟨z0, z1⟩, m0, mr⟩ := S15.facts hmo
    rw [hk] at x0
    have HS15 := Lib.hid S15
    clear S15 hb
    have HO1 := Lib.hid (And.intro M1 (And.intro so1 hn1))
    clear M1 so1 hn1 hown
    go_wp2_with fail
    refine (with08_any A1 n1 cp1 (withoutM ms x.id) (⟨x.nw, x.key⟩ : Mb) hmo _ HO1.out.1 (by omega)).mono ?_
    rintro e w16 ⟨A2, cp2, rfl, hown, hb⟩
    obtain ⟨n2, hn2⟩ : ∃ n2, (withM (withoutM ms x.id) (⟨x.nw, x.key⟩ : Mb)).length = n2 := ⟨_, rfl⟩
    rw [hn2] at hown ⊢
    have hl2 : n2 ≤ 21 := by have := withM_len (ms := (withoutM ms x.id)) (x := (⟨x.nw, x.key⟩ : Mb)); have := HO1.out.2.2; omega
    obtain ⟨A2', cp2', hv2, M2⟩ := MS_of_own hown (withM_ok hmo (withoutM_ok H.out.1.ok)) (by omega)
    cases hv2
    obtain ⟨_, _, hv2, so2, -⟩ := own_shape hown
    cases hv2
    clear c0 c1 x0 x1 x2 q0 q1 f0 f1 z0 z1 m0 mr
    have S17 := HS15.out.below hb
    obtain ⟨⟨c0, c1⟩, ⟨x0, x1, x2⟩, ⟨q0, q1, f0, f1⟩, ⟨z0, z1⟩, m0, mr⟩ := S17.facts hmo
    rw [hk] at x0
    have HS17 := Lib.hid S17
    clear S17 hb
    have HO2 := Lib.hid (And.intro M2 (And.intro so2 hn2))
    clear M2 so2 hn2 hown
    have wdr : w16.drew.heap.size = w16.heap.size := rfl
    obtain ⟨v9, w9, hrun9, hown9, hb9⟩ := full_M cp2 (w := w16.drew) (HO2.out.1.below (Below.refl _ _).drew) HO2.out.2.1 (by omega)
    obtain ⟨A9, c9, rfl, so9, -⟩ := own_shape hown9
    have T := HS17.out.below ((Below.refl _ _).drew)
    have Ta : Ag w ep A n cap x w5.heap.size (⟨x.nw, x.key⟩ : Mb) (w16.alloc (.cells #[] 60)).drew := HS17.out.below (((Below.refl _ _).alloc (Nat.le_refl _) (.cells #[] 60)).drew)
    have Tb := T.below hb9
    replace hrun9 : (apRow #[24, 24] 24 #[.slice (some ⟨w16.heap.size, 0, none⟩) 0 0, .slice A2 n2 cp2]).run Tryd.prog (w16.alloc (.cells #[] 60)).drew = .ok (.slice A9 n2 c9) w9 := hrun9
    obtain ⟨⟨t0, t1⟩, -, ⟨t2, t3, t4, t5⟩, -⟩ := T.facts hmo
    obtain ⟨⟨ta0, ta1⟩, -, ⟨ta2, ta3, ta4, ta5⟩, -⟩ := Ta.facts hmo
    obtain ⟨⟨tb0, tb1⟩, -, ⟨tb2, tb3, tb4, tb5⟩, -⟩ := Tb.facts hmo
    have hwi : IntKind.i64.wrap (ep + 1) = ep + 1 := by rw [IntKind.wrap_i64]; omega
    have hw64 : wrap64 (ep + 1) = ep + 1 := by unfold wrap64; omega
    have F := Lib.hid (And.intro hown9 (And.intro Tb Ta))
    clear hown9 T Ta Tb hb9 so9
    go_wp2_with fail
    go_region
    go_wp2_with fail
    refine bodyPost_ret (v := .tuple #[.agg #[.int .i64 (ep + 1), .slice A9 n2 c9], .int .i64 0]) (by rw [results_cell2 Tryd.results41]; simp [go_sem, *]) rfl ?_
    have mv : Mv (· = w.heap.size + 1 + 1) w9 ((w9.setCell ⟨w.heap.size + 1 + 1, 0, none⟩ (.int .i64 (ep + 1))).setCell ⟨w.heap.size + 1 + 1, 1, none⟩ (.slice A9 n2 c9)) := (Mv.setCell (fp := (· = w.heap.size + 1 + 1)) _ _ _ rfl).trans (Mv.setCell (fp := (· = w.heap.size + 1 + 1)) _ _ _ rfl) (fun _ _ c => c)
    have hwl : w.heap.size + 4 ≤ w16.heap.size := by have := F.out.2.2.b.size; have := HS17.out.g; have := HS17.out.lt; omega
    refine ⟨ep + 1, A9, n2, c9, (withM (withoutM ms x.id) (⟨x.nw, x.key⟩ : Mb)), by rw [HE.out], fun _ => ⟨rfl, ?_⟩, ?_, ?_, ?_, F.out.2.1.b.trans ((mv.below (B := w.heap.size) F.out.2.1.b.size (fun i hi => by omega)))⟩
    · unfold ref8L; rw [HM.out, hk]; rfl
    · exact own_mono (own_mv F.out.1 mv (fun g hg e => by have := (own_lt F.out.1 hg).1; have : w16.drew.heap.size = w16.heap.size := rfl; omega)) (Nat.le_trans (by omega) hwl)
    · exact HO2.out.2.2
    · exact (withM_ok hmo (withoutM_ok H.out.1.ok))
set_option maxHeartbeats 8000000 in
theorem ap08_4 (ep : Int) (A : Option Addr) (n cap : Nat) (ms : List Mb) (x : Chg) (w : World) (h : MS w A n ms) (hs : SlOk A n) (hx : x.ok) (hk : x.kind = 4) (hg : goodB ep ms = true) (he : ep ≠ 1073741824) : Calls Tryd.prog 41 #[.agg #[.int .i64 ep, .slice A n cap], .agg x.arr] w (Ap08 ep ms x w) := by
  have hten : n ≤ 10 := by have := good_ten hg; have := h.len; omega
  have e01 := good_bounds h.len hg
  have e0 := e01.1
  have e1 := e01.2.1
  clear e01
  have hn10 : (n : Int) ≤ 10 := by omega
  have hne : (ep == 1073741824) = false := by rw [beq_eq_false_iff_ne]; exact he
  have hkk := hx.key
  have x0' : x.arr[0]? = some (.int .i64 4) := by rw [x.at0, hk]
  have x1' := x.at1
  have x2' := x.at2
  have xk' := Chg.cutKey hx
  have xs' : SizeIs x.arr 36 := Chg.size hx
  have xo' : oneCells x.arr = true := ones_of (chg_ones x)
  obtain ⟨w4, hw4⟩ : ∃ w4, (((w.alloc (.cells #[.int .i64 ep, .slice A n cap] 26)).alloc (.cells x.arr 42)).alloc (.cells #[.int .i64 0, .slice none 0 0] 26)).alloc (.cells #[.int .i64 0, .slice none 0 0] 26) = w4 := ⟨_, rfl⟩
  have hst := Ag.start w ep A n cap x
  rw [hw4] at hst
  have hS0 := hst w4 (Below.refl _ _) ⟨x.id, x.key⟩
  have hb4 : Below w.heap.size w w4 := by rw [← hw4]; exact ((((Below.refl _ _).alloc (Nat.le_refl _) _).alloc (by simp) _).alloc (by simp; omega) _).alloc (by simp; omega) _
  have hz4 : w4.heap.size = w.heap.size + 4 := by rw [← hw4]; simp
  have B4 : ∀ k, k < w.heap.size + 4 → (w4.alloc (.cells (Mb.arr ⟨x.id, x.key⟩) 60)).heap[k]? = w4.heap[k]? := fun k hk => Below.heap_alloc _ _ _ (by omega)
  have b0 : w4.cell? ⟨w.heap.size, 0, none⟩ = some (.int .i64 ep) := cell_of_row ((B4 _ (by omega)).symm.trans hS0.c) rfl
  have b1 : w4.cell? ⟨w.heap.size, 1, none⟩ = some (.slice A n cap) := cell_of_row ((B4 _ (by omega)).symm.trans hS0.c) rfl
  have H := Lib.hid (And.intro h (And.intro hs (And.intro hx (And.intro hg (And.intro he (And.intro hst (And.intro hb4 hz4)))))))
  clear h hs hg he hst hS0 hb4 hz4 B4
  go_enter Tryd.func41, Tryd.ntmps41
  go_wp2_with fail
  clear hw4
  refine (refGood_any ep A n cap ms _ (H.out.1.below H.out.2.2.2.2.2.2.1)).mono ?_
  rw [H.out.2.2.2.1]
  rintro e w5 ⟨rfl, hb5⟩
  have S6 := H.out.2.2.2.2.2.1 w5 hb5 ⟨x.id, x.key⟩
  have B5 : ∀ k, k < w.heap.size + 4 → (w5.alloc (.cells (Mb.arr ⟨x.id, x.key⟩) 60)).heap[k]? = w5.heap[k]? := fun k hk => Below.heap_alloc _ _ _ (by have := hb5.size; have := H.out.2.2.2.2.2.2.2; omega)
  have d0 : w5.cell? ⟨w.heap.size, 0, none⟩ = some (.int .i64 ep) := cell_of_row ((B5 _ (by omega)).symm.trans S6.c) rfl
  have d1 : w5.cell? ⟨w.heap.size + 1, 0, none⟩ = some (.int .i64 4) := cell_of_row ((B5 _ (by omega)).symm.trans S6.x) x0'
  have d2 : w5.cell? ⟨w.heap.size + 1, 1, none⟩ = some (.int .i64 x.id) := cell_of_row ((B5 _ (by omega)).symm.trans S6.x) x1'
  have d3 : rowAt w5 (w.heap.size + 1) 3 33 = some x.key.arr := by unfold rowAt; rw [(B5 _ (by omega)).symm.trans S6.x]; exact xk'
  have hmi : (⟨x.id, x.key⟩ : Mb).ok := ⟨hx.key, hx.id⟩
  have hms := Mb.sz hmi
  have hmo1 := Mb.ones (⟨x.id, x.key⟩ : Mb)
  obtain ⟨w6, hw6⟩ : ∃ w6, w5.alloc (.cells (Mb.arr ⟨x.id, x.key⟩) 60) = w6 := ⟨_, rfl⟩
  rw [hw6] at S6
  have S7 := S6
  have hmo := hmi
  obtain ⟨⟨c0, c1⟩, ⟨x0, x1, x2⟩, ⟨q0, q1, f0, f1⟩, ⟨z0, z1⟩, m0, mr⟩ := S7.facts hmo
  rw [hk] at x0
  have G := Lib.hid (And.intro S7 (And.intro (H.out.2.2.2.2.2.2.1.trans (hb5.mono H.out.2.2.2.2.2.2.1.size)) hmo))
  clear S6 S7 hb5 B5 b0 b1
  go_wp2_with fail
  clear hw6 d0 d1 d2 d3
  have hmem : memOf x = (⟨x.id, x.key⟩ : Mb) := by unfold memOf; rw [hk]; rfl
  have HM := Lib.hid hmem
  clear hmem
  refine (refRight_any hmo _).mono ?_
  rintro e w8 ⟨rfl, hb⟩
  clear c0 c1 x0 x1 x2 q0 q1 f0 f1 z0 z1 m0 mr
  have S9 := G.out.1.below hb
  obtain ⟨⟨c0, c1⟩, ⟨x0, x1, x2⟩, ⟨q0, q1, f0, f1⟩, ⟨z0, z1⟩, m0, mr⟩ := S9.facts hmo
  rw [hk] at x0
  have HS9 := Lib.hid S9
  clear S9 hb
  cases hr : rightB (⟨x.id, x.key⟩ : Mb) with
  | false =>
    have hE : appE ep ms x = 1 := by unfold appE; rw [if_pos ⟨H.out.2.2.2.1, by omega, by omega, H.out.2.2.2.2.1⟩]; rw [if_pos ⟨by omega, by rw [HM.out]; exact hr⟩]
    have HE := Lib.hid hE
    clear hE
    go_wp2_with fail
    refine bodyPost_ret (v := .tuple #[.agg #[.int .i64 0, .slice none 0 0], .int .i64 1]) (by rw [results_cell2 Tryd.results41]; simp [go_sem, *]) rfl ?_
    exact Ap08.no HE.out (by decide) ((HS9.out.b.setCell (p := ⟨w.heap.size + 1 + 1, 0, none⟩) (by simp; omega) _).setCell (p := ⟨w.heap.size + 1 + 1, 1, none⟩) (by simp; omega) _)
  | true =>
    have HR := Lib.hid hr
    go_wp2_with fail
    refine (place_any ep A n cap ms x.id _ (H.out.1.below HS9.out.b)).mono ?_
    rintro e w10 ⟨rfl, hb⟩
    clear c0 c1 x0 x1 x2 q0 q1 f0 f1 z0 z1 m0 mr
    have S11 := HS9.out.below hb
    obtain ⟨⟨c0, c1⟩, ⟨x0, x1, x2⟩, ⟨q0, q1, f0, f1⟩, ⟨z0, z1⟩, m0, mr⟩ := S11.facts hmo
    rw [hk] at x0
    have HS11 := Lib.hid S11
    clear S11 hb
    rcases hasB_place (ms := ms) (id := x.id) with ⟨hh, hp⟩ | ⟨hh, pk, hp⟩
    · rw [hp]
      have hE : appE ep ms x = 7 := by unfold appE; rw [if_pos ⟨H.out.2.2.2.1, by omega, by omega, H.out.2.2.2.2.1⟩]; rw [if_neg (by rw [HM.out, HR.out]; simp)]; rw [if_pos ⟨by omega, hh⟩]
      have HE := Lib.hid hE
      clear hE
      go_wp2_with fail
      refine bodyPost_ret (v := .tuple #[.agg #[.int .i64 0, .slice none 0 0], .int .i64 7]) (by rw [results_cell2 Tryd.results41]; simp [go_sem, *]) rfl ?_
      exact Ap08.no HE.out (by decide) ((HS11.out.b.setCell (p := ⟨w.heap.size + 1 + 1, 0, none⟩) (by simp; omega) _).setCell (p := ⟨w.heap.size + 1 + 1, 1, none⟩) (by simp; omega) _)
    rw [hp]
    have hpk : (0 : Int) ≤ pk := by omega
    have HP := Lib.hid hh
    clear hp
    have hE : appE ep ms x = 0 := by unfold appE; rw [if_pos ⟨H.out.2.2.2.1, by omega, by omega, H.out.2.2.2.2.1⟩]; rw [if_neg (by rw [HM.out, HR.out]; simp)]; rw [if_neg (by rw [HP.out]; simp)]; rw [if_neg (by omega)]; rw [if_neg (by omega)]; rw [if_neg (by omega)]
    have HE := Lib.hid hE
    clear hE
    go_wp2_with fail
    refine (without08_any A n cap ms x.id _ (H.out.1.below HS11.out.b) (by omega)).mono ?_
    rintro e w12 ⟨A1, cp1, rfl, hown, hb⟩
    obtain ⟨n1, hn1⟩ : ∃ n1, (withoutM ms x.id).length = n1 := ⟨_, rfl⟩
    rw [hn1] at hown ⊢
    have hl1 : n1 ≤ 10 := by have := withoutM_len (ms := ms) (id := x.id); have := H.out.1.len; omega
    obtain ⟨A1', cp1', hv1, M1⟩ := MS_of_own hown (withoutM_ok H.out.1.ok) (by omega)
    cases hv1
    obtain ⟨_, _, hv1, so1, -⟩ := own_shape hown
    cases hv1
    clear c0 c1 x0 x1 x2 q0 q1 f0 f1 z0 z1 m0 mr
    have S13 := HS11.out.below hb
    obtain ⟨⟨c0, c1⟩, ⟨x0, x1, x2⟩, ⟨q0, q1, f0, f1⟩, ⟨z0, z1⟩, m0, mr⟩ := S13.facts hmo
    rw [hk] at x0
    have HS13 := Lib.hid S13
    clear S13 hb
    have HO1 := Lib.hid (And.intro M1 (And.intro so1 hn1))
    clear M1 so1 hn1 hown
    go_wp2_with fail
    refine (with08_any A1 n1 cp1 (withoutM ms x.id) (⟨x.id, x.key⟩ : Mb) hmo _ HO1.out.1 (by omega)).mono ?_
    rintro e w14 ⟨A2, cp2, rfl, hown, hb⟩
    obtain ⟨n2, hn2⟩ : ∃ n2, (withM (withoutM ms x.id) (⟨x.id, x.key⟩ : Mb)).length = n2 := ⟨_, rfl⟩
    rw [hn2] at hown ⊢
    have hl2 : n2 ≤ 21 := by have := withM_len (ms := (withoutM ms x.id)) (x := (⟨x.id, x.key⟩ : Mb)); have := HO1.out.2.2; omega
    obtain ⟨A2', cp2', hv2, M2⟩ := MS_of_own hown (withM_ok hmo (withoutM_ok H.out.1.ok)) (by omega)
    cases hv2
    obtain ⟨_, _, hv2, so2, -⟩ := own_shape hown
    cases hv2
    clear c0 c1 x0 x1 x2 q0 q1 f0 f1 z0 z1 m0 mr
    have S15 := HS13.out.below hb
    obtain ⟨⟨c0, c1⟩, ⟨x0, x1, x2⟩, ⟨q0, q1, f0, f1⟩, ⟨z0, z1⟩, m0, mr⟩ := S15.facts hmo
    rw [hk] at x0
    have HS15 := Lib.hid S15
    clear S15 hb
    have HO2 := Lib.hid (And.intro M2 (And.intro so2 hn2))
    clear M2 so2 hn2 hown
    have wdr : w14.drew.heap.size = w14.heap.size := rfl
    obtain ⟨v9, w9, hrun9, hown9, hb9⟩ := full_M cp2 (w := w14.drew) (HO2.out.1.below (Below.refl _ _).drew) HO2.out.2.1 (by omega)
    obtain ⟨A9, c9, rfl, so9, -⟩ := own_shape hown9
    have T := HS15.out.below ((Below.refl _ _).drew)
    have Ta : Ag w ep A n cap x w5.heap.size (⟨x.id, x.key⟩ : Mb) (w14.alloc (.cells #[] 60)).drew := HS15.out.below (((Below.refl _ _).alloc (Nat.le_refl _) (.cells #[] 60)).drew)
    have Tb := T.below hb9
    replace hrun9 : (apRow #[24, 24] 24 #[.slice (some ⟨w14.heap.size, 0, none⟩) 0 0, .slice A2 n2 cp2]).run Tryd.prog (w14.alloc (.cells #[] 60)).drew = .ok (.slice A9 n2 c9) w9 := hrun9
    obtain ⟨⟨t0, t1⟩, -, ⟨t2, t3, t4, t5⟩, -⟩ := T.facts hmo
    obtain ⟨⟨ta0, ta1⟩, -, ⟨ta2, ta3, ta4, ta5⟩, -⟩ := Ta.facts hmo
    obtain ⟨⟨tb0, tb1⟩, -, ⟨tb2, tb3, tb4, tb5⟩, -⟩ := Tb.facts hmo
    have hwi : IntKind.i64.wrap (ep + 1) = ep + 1 := by rw [IntKind.wrap_i64]; omega
    have hw64 : wrap64 (ep + 1) = ep + 1 := by unfold wrap64; omega
    have F := Lib.hid (And.intro hown9 (And.intro Tb Ta))
    clear hown9 T Ta Tb hb9 so9
    go_wp2_with fail
    go_region
    go_wp2_with fail
    refine bodyPost_ret (v := .tuple #[.agg #[.int .i64 (ep + 1), .slice A9 n2 c9], .int .i64 0]) (by rw [results_cell2 Tryd.results41]; simp [go_sem, *]) rfl ?_
    have mv : Mv (· = w.heap.size + 1 + 1) w9 ((w9.setCell ⟨w.heap.size + 1 + 1, 0, none⟩ (.int .i64 (ep + 1))).setCell ⟨w.heap.size + 1 + 1, 1, none⟩ (.slice A9 n2 c9)) := (Mv.setCell (fp := (· = w.heap.size + 1 + 1)) _ _ _ rfl).trans (Mv.setCell (fp := (· = w.heap.size + 1 + 1)) _ _ _ rfl) (fun _ _ c => c)
    have hwl : w.heap.size + 4 ≤ w14.heap.size := by have := F.out.2.2.b.size; have := HS15.out.g; have := HS15.out.lt; omega
    refine ⟨ep + 1, A9, n2, c9, (withM (withoutM ms x.id) (⟨x.id, x.key⟩ : Mb)), by rw [HE.out], fun _ => ⟨rfl, ?_⟩, ?_, ?_, ?_, F.out.2.1.b.trans ((mv.below (B := w.heap.size) F.out.2.1.b.size (fun i hi => by omega)))⟩
    · unfold ref8L; rw [HM.out, hk]; rfl
    · exact own_mono (own_mv F.out.1 mv (fun g hg e => by have := (own_lt F.out.1 hg).1; have : w14.drew.heap.size = w14.heap.size := rfl; omega)) (Nat.le_trans (by omega) hwl)
    · exact HO2.out.2.2
    · exact (withM_ok hmo (withoutM_ok H.out.1.ok))
end Go.Proofs.YtfnfgnhbnffagaaDoor

/-
The document's answer: any change of the configuration.
-/
namespace Go.Proofs.YtfnfgnhbnffagaaDoor
open Go.RowKit
set_option linter.unusedVariables false
set_option linter.unusedSimpArgs false
set_option maxRecDepth 100000
set_option maxHeartbeats 4000000 in
theorem ap08_bad (ep : Int) (A : Option Addr) (n cap : Nat) (ms : List Mb) (x : Chg) (w : World) (h : MS w A n ms) (hx : x.ok) (hbad : ¬ (goodB ep ms = true ∧ 1 ≤ x.kind ∧ x.kind ≤ 4 ∧ ep ≠ 1073741824)) :
    Calls Tryd.prog 41 #[.agg #[.int .i64 ep, .slice A n cap], .agg x.arr] w (Ap08 ep ms x w) := by
  have hE := appE_bad hbad
  obtain ⟨g, hg⟩ : ∃ g, goodB ep ms = g := ⟨_, rfl⟩
  have hb : g = false ∨ (g = true ∧ (ep == 1073741824) = true) ∨ (g = true ∧ (ep == 1073741824) = false ∧ x.kind < 1) ∨ (g = true ∧ (ep == 1073741824) = false ∧ ¬ x.kind < 1 ∧ 4 < x.kind) := by
    cases g with
    | false => exact .inl rfl
    | true =>
      by_cases c0 : ep = 1073741824
      · exact .inr (.inl ⟨rfl, beq_iff_eq.2 c0⟩)
      · have c0' := beq_eq_false_iff_ne.2 c0
        by_cases c1 : x.kind < 1
        · exact .inr (.inr (.inl ⟨rfl, c0', c1⟩))
        · exact .inr (.inr (.inr ⟨rfl, c0', c1, by
            by_cases c2 : 4 < x.kind
            · exact c2
            · exact absurd ⟨hg, by omega, by omega, c0⟩ hbad⟩))
  have x0' := x.at0
  have xs' : SizeIs x.arr 36 := Chg.size hx
  have xo' : oneCells x.arr = true := ones_of (chg_ones x)
  obtain ⟨w4, hw4⟩ : ∃ w4, (((w.alloc (.cells #[.int .i64 ep, .slice A n cap] 26)).alloc (.cells x.arr 42)).alloc (.cells #[.int .i64 0, .slice none 0 0] 26)).alloc (.cells #[.int .i64 0, .slice none 0 0] 26) = w4 := ⟨_, rfl⟩
  have hst := Ag.start w ep A n cap x
  rw [hw4] at hst
  have hb4 : Below w.heap.size w w4 := by rw [← hw4]; exact ((((Below.refl _ _).alloc (Nat.le_refl _) _).alloc (by simp) _).alloc (by simp; omega) _).alloc (by simp; omega) _
  have hz4 : w4.heap.size = w.heap.size + 4 := by rw [← hw4]; simp
  have F4 : ∀ w5, Below w4.heap.size w4 w5 → (w5.cell? ⟨w.heap.size, 0, none⟩ = some (.int .i64 ep) ∧ w5.cell? ⟨w.heap.size, 1, none⟩ = some (.slice A n cap)) ∧ w5.cell? ⟨w.heap.size + 1, 0, none⟩ = some (.int .i64 x.kind) ∧
      (w5.cell? ⟨w.heap.size + 1 + 1, 0, none⟩ = some (.int .i64 0) ∧ w5.cell? ⟨w.heap.size + 1 + 1, 1, none⟩ = some (.slice none 0 0) ∧ w5.frozen? ⟨w.heap.size + 1 + 1, 0, none⟩ = false ∧ w5.frozen? ⟨w.heap.size + 1 + 1, 1, none⟩ = false) ∧
      (w5.cell? ⟨w.heap.size + 1 + 1 + 1, 0, none⟩ = some (.int .i64 0) ∧ w5.cell? ⟨w.heap.size + 1 + 1 + 1, 1, none⟩ = some (.slice none 0 0)) ∧ Below w.heap.size w w5 := fun w5 hb5 => by
    have S := hst w5 hb5 Mb.zero
    have B5 : ∀ k, k < w.heap.size + 4 → (w5.alloc (.cells Mb.zero.arr 60)).heap[k]? = w5.heap[k]? := fun k hk => Below.heap_alloc _ _ _ (by have := hb5.size; omega)
    have e0 := (B5 _ (by omega)).symm.trans S.c
    have e1 := (B5 _ (by omega)).symm.trans S.x
    have e2 := (B5 _ (by omega)).symm.trans S.r
    have e3 := (B5 _ (by omega)).symm.trans S.z
    exact ⟨⟨cell_of_row e0 rfl, cell_of_row e0 rfl⟩, cell_of_row e1 x0', ⟨cell_of_row e2 rfl, cell_of_row e2 rfl, by simp [World.frozen?, e2], by simp [World.frozen?, e2]⟩, ⟨cell_of_row e3 rfl, cell_of_row e3 rfl⟩, hb4.trans (hb5.mono hb4.size)⟩
  have H := Lib.hid (And.intro (h.below hb4) (And.intro hE (And.intro hg F4)))
  obtain ⟨⟨b0, b1⟩, -⟩ := F4 w4 (Below.refl _ _)
  clear h hE hg hst hb4 hz4 F4 hbad
  rcases hb with rfl | ⟨rfl, c0⟩ | ⟨rfl, c0, c1⟩ | ⟨rfl, c0, c1, c2⟩
  all_goals
    go_enter Tryd.func41, Tryd.ntmps41
    go_wp2_with fail
    clear hw4
    refine (refGood_any ep A n cap ms _ H.out.1).mono ?_
    rw [H.out.2.2.1]
    rintro e w5 ⟨rfl, hb5⟩
    obtain ⟨⟨d0, d1⟩, x0, ⟨q0, q1, f0, f1⟩, ⟨z0, z1⟩, hB⟩ := H.out.2.2.2 w5 hb5
    have HB := Lib.hid hB
    clear hB hb5 b0 b1
    go_wp2_with fail
    refine bodyPost_ret (v := .tuple #[.agg #[.int .i64 0, .slice none 0 0], .int .i64 1]) (by rw [results_cell2 Tryd.results41]; simp [go_sem, *]) rfl ?_
    exact Ap08.no H.out.2.1 (by decide) ((HB.out.setCell (p := ⟨w.heap.size + 1 + 1, 0, none⟩) (by simp; omega) _).setCell (p := ⟨w.heap.size + 1 + 1, 1, none⟩) (by simp; omega) _)
theorem apply08_any (ep : Int) (A : Option Addr) (n cap : Nat) (ms : List Mb) (x : Chg) (w : World) (h : MS w A n ms) (hs : SlOk A n) (hx : x.ok) : Calls Tryd.prog 41 #[.agg #[.int .i64 ep, .slice A n cap], .agg x.arr] w (Ap08 ep ms x w) := by
  by_cases hg : goodB ep ms = true ∧ 1 ≤ x.kind ∧ x.kind ≤ 4 ∧ ep ≠ 1073741824
  · obtain ⟨g, k1, k4, he⟩ := hg
    have : x.kind = 1 ∨ x.kind = 2 ∨ x.kind = 3 ∨ x.kind = 4 := by omega
    rcases this with k | k | k | k
    · exact ap08_1 ep A n cap ms x w h hs hx k g he
    · exact ap08_2 ep A n cap ms x w h hs hx k g he
    · exact ap08_3 ep A n cap ms x w h hs hx k g he
    · exact ap08_4 ep A n cap ms x w h hs hx k g he
  · exact ap08_bad ep A n cap ms x w h hx hg
end Go.Proofs.YtfnfgnhbnffagaaDoor
