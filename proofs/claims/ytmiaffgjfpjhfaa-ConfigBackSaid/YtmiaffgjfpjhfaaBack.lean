/-
ConfigBack: a member that comes and goes again leaves all others as they were.
-/
import Derived.Test.YtmiaffgjfpjhfaaKey
import Derived.Test.YtmiaffgjfpjhfaaRows
namespace Go.Proofs.Ytmiaffgjfpjhfaa
open Go.ChangeShapes Go.WideShapes Go.ChangeAt Go.RowKit
set_option linter.unusedVariables false
set_option linter.unusedSimpArgs false

set_option maxHeartbeats 2000000 in
theorem back_far (ep : Int) (A : Option Addr) (n cap : Nat) (id : Int) (key : Kb) (w : World) (hl : ¬ n ≤ 10 ∨ 536870912 < ep) :
    Calls Try.prog 8 #[.agg #[.int .i64 ep, .slice A n cap], .int .i64 id, .agg key.arr] w fun e w' => e = .returned (.bool true) ∧ Below w.heap.size w w' := by
  have hB := (alloc_below w (.cells #[.int .i64 ep, .slice A n cap] 24)).alloc (by simp) (.cells key.arr 33)
  have B0 := Lib.hid ((Box.start w ep A n cap).later (alloc_below _ (.cells key.arr 33)))
  have h1 : (10 : Int) < n ∨ (¬ (10 : Int) < n ∧ 536870912 < ep) := by omega
  clear hl
  rcases h1 with h1 | ⟨h1, h2⟩
  all_goals
    go_enter Try.func8, Try.ntmps8
    go_wp2_with fail
    refine (alive_any _).mono ?_
    rintro e w1 ⟨rfl, hb1⟩
    obtain ⟨c0, c1, -⟩ := B0.out.later hb1
    go_wp2_with fail
    go_ret
    exact ⟨rfl, hB.trans (hb1.mono (by simp; omega))⟩

set_option maxHeartbeats 2000000 in
theorem back_near (ep : Int) (A : Option Addr) (n cap : Nat) (id : Int) (key : Kb) (ms : List Mb) (w : World) (h : MS w A n ms) (hl : n ≤ 10) (he : ep ≤ 536870912) (wi : (Lit.int .i64 id).wf = true) (hk : key.ok) :
    Calls Try.prog 8 #[.agg #[.int .i64 ep, .slice A n cap], .int .i64 id, .agg key.arr] w fun e w' => e = .returned (.bool true) ∧ Below w.heap.size w w' := by
  have hB := (alloc_below w (.cells #[.int .i64 ep, .slice A n cap] 24)).alloc (by simp) (.cells key.arr 33)
  have B0 := Lib.hid ((Box.start w ep A n cap).later (alloc_below _ (.cells key.arr 33)))
  have H := Lib.hid (h.below hB)
  have rk := Lib.hid (row_alloc (w.alloc (.cells #[.int .i64 ep, .slice A n cap] 24)) key.arr 33 (Kb.sz hk))
  have h1 : ¬ (10 : Int) < n := by omega
  have h2 : ¬ 536870912 < ep := by omega
  have HL := Lib.hid h.len
  have hx := Lib.hid (chg_ok wf_one wi wf_zero hk)
  have hx2 := Lib.hid (chg_ok wf_two wi wf_zero Kb.zero_ok)
  clear h
  have hcase : (∃ E : Int, (E == 0) = false ∧ E ≠ 0 ∧ appE ep ms ⟨1, id, 0, key⟩ = E) ∨ appE ep ms ⟨1, id, 0, key⟩ = 0 := by
    rcases Classical.em (appE ep ms ⟨1, id, 0, key⟩ = 0) with h | h
    · exact .inr h
    · exact .inl ⟨_, by rw [beq_eq_false_iff_ne]; exact h, h, rfl⟩
  clear hl he
  rcases hcase with ⟨E, hE1, hE2, hE3⟩ | hE
  · have HE2 := Lib.hid hE2
    have HE3 := Lib.hid hE3
    clear hE2 hE3
    go_enter Try.func8, Try.ntmps8
    go_wp2_with fail
    refine (alive_any _).mono ?_
    rintro e w1 ⟨rfl, hb1⟩
    have H1 := Lib.hid (H.out.below hb1)
    have B1 := Lib.hid (B0.out.later hb1)
    obtain ⟨c0, c1, ch⟩ := B1.out
    have rk1 := (rowAt_below hb1 (b := w.heap.size + 1) (by simp) 0 33).trans (by have := rk.out; simpa using this)
    go_wp2_with fail
    refine (apply_any ep A n cap ms ⟨1, id, 0, key⟩ _ H1.out hx.out).mono fun e w2 h2 => ?_
    obtain ⟨A2, cap2, rfl, M2, hb2⟩ := h2.no (by rw [HE3.out]; exact HE2.out) (appR_no (by rw [HE3.out]; exact HE2.out))
    rw [HE3.out]
    go_wp2_with fail
    go_ret
    obtain ⟨i1, j1⟩ := since hB (by simp; omega) hb1
    obtain ⟨i2, j2⟩ := since i1 j1 hb2
    exact ⟨rfl, i2.alloc j2 _⟩
  have HE := Lib.hid hE
  have hz := appE_zero hE
  obtain ⟨⟨hg, -, -, hne⟩, hri, -, hno, hten, -⟩ := hz
  have hri := hri (show (1 : Int) ≠ 2 by decide)
  have hno := hno (.inl rfl)
  have hten := hten rfl
  have hep := (good_iff.1 hg).1
  have hw : wrap64 (ep + 2) = ep + 1 + 1 := by unfold wrap64; omega
  have hL1 := Lib.hid (appR_add hE rfl)
  have G1 := Lib.hid (good_ins (ep' := ep + 1) (m := ⟨id, key⟩) hg hri hno hten (by omega) (by omega))
  have hE2 := Lib.hid (appE_ok (ep := ep + 1) (ms := ins ms ⟨id, key⟩) (x := ⟨2, id, 0, Kb.zero⟩) ⟨G1.out, show (1 : Int) ≤ 2 by decide, show (2 : Int) ≤ 4 by decide, by omega⟩ (fun h => absurd rfl h) (fun _ => hasB_ins ms ⟨id, key⟩) (fun h => by rcases h with h | h <;> cases h) (fun h => by cases h) (fun _ => by rw [ins_length]; omega))
  have hL2 := Lib.hid ((appR_del hE2.out rfl).trans ((congrArg _ (posI_ins ms ⟨id, key⟩)).trans (erase_ins ms ⟨id, key⟩)))
  have hlen1 := Lib.hid ((ins_length ms ⟨id, key⟩).trans (congrArg (· + 1) HL.out))
  have hP := Lib.hid (show placeI (ins ms ⟨id, key⟩) id = (posI ms id : Int) from placeI_ins ms ⟨id, key⟩)
  have hPl := Lib.hid (show posI ms id < n + 1 by have := posI_le ms id; have := HL.out; omega)
  have hAt := Lib.hid (show (ins ms ⟨id, key⟩).getD (posI ms id) default = ⟨id, key⟩ from ins_at ms ⟨id, key⟩)
  have hmo : (Mb.mk id key).ok := ⟨hk, wi⟩
  have hmz := Mb.sz hmo
  have hmi := (Mb.mk id key).ones
  have hS : sameB ep ms ep ms = true := by unfold sameB; simp
  have HS := Lib.hid hS
  have hn10 : n ≤ 10 := by have := HL.out; omega
  clear hE hg hne hri hno hten hep hS
  go_enter Try.func8, Try.ntmps8
  go_wp2_with fail
  refine (alive_any _).mono ?_
  rintro e w1 ⟨rfl, hb1⟩
  have H1 := Lib.hid (H.out.below hb1)
  have B1 := Lib.hid (B0.out.later hb1)
  obtain ⟨c0, c1, ch⟩ := B1.out
  have rk1 := (rowAt_below hb1 (b := w.heap.size + 1) (by simp) 0 33).trans (by have := rk.out; simpa using this)
  go_wp2_with fail
  refine (apply_any ep A n cap ms ⟨1, id, 0, key⟩ _ H1.out hx.out).mono fun e w2 h2 => ?_
  rw [HE.out, hL1.out] at h2
  obtain ⟨A2, cap2, rfl, M2, -, hb2⟩ := h2.yes hlen1.out (by omega)
  clear h2
  have hb3 := hb2.alloc hb2.size (.cells #[.int .i64 (ep + 1), .slice A2 (n + 1) cap2] 24)
  have M3 := Lib.hid (M2.below (alloc_below w2 (.cells #[.int .i64 (ep + 1), .slice A2 (n + 1) cap2] 24)))
  have D3 := Lib.hid (Box.start w2 (ep + 1) A2 (n + 1) cap2)
  have B3 := Lib.hid (B1.out.later hb3)
  have H3 := Lib.hid (H1.out.below hb3)
  have rk3 := Lib.hid ((rowAt_below hb3 (b := w.heap.size + 1) (by have := hb1.size; simp at this; omega) 0 33).trans rk1)
  obtain ⟨d0, d1, dh⟩ := D3.out
  clear M2 c0 c1 rk1
  go_wp2_with fail
  refine (Find_some (ep + 1) A2 (n + 1) cap2 (ins ms ⟨id, key⟩) id (posI ms id) _ M3.out hPl.out hP.out).mono ?_
  rw [hAt.out]
  rintro e w4 ⟨rfl, hb4⟩
  have hb5 := hb4.alloc hb4.size (.cells (Mb.mk id key).arr 37)
  have M5 := Lib.hid (M3.out.below hb5)
  have D5 := Lib.hid (D3.out.later hb5)
  have B5 := Lib.hid (B3.out.later hb5)
  have H5 := Lib.hid (H3.out.below hb5)
  have rk5 := Lib.hid ((rowAt_below hb5 (b := w.heap.size + 1) (by have := hb1.size; have := hb2.size; simp at *; omega) 0 33).trans rk3.out)
  have rm5 : (w4.alloc (.cells (Mb.mk id key).arr 37)).heap[w4.heap.size]? = some (.cells (Mb.mk id key).arr 37 (0, 0)) := heap_alloc_new _ _
  have RM5 := Lib.hid rm5
  obtain ⟨f0, f1, fh⟩ := D5.out
  clear d0 d1 rm5
  go_wp2_with fail
  refine (apply_any (ep + 1) A2 (n + 1) cap2 (ins ms ⟨id, key⟩) ⟨2, id, 0, Kb.zero⟩ _ M5.out hx2.out).mono fun e w6 h6 => ?_
  rw [hE2.out, hL2.out] at h6
  obtain ⟨A6, cap6, rfl, M6, -, hb6⟩ := h6.yes HL.out (by omega)
  clear h6
  have hb7 := hb6.alloc hb6.size (.cells #[.int .i64 (ep + 1 + 1), .slice A6 n cap6] 24)
  have M7 := Lib.hid (M6.below (alloc_below w6 (.cells #[.int .i64 (ep + 1 + 1), .slice A6 n cap6] 24)))
  have X7 := Lib.hid (Box.start w6 (ep + 1 + 1) A6 n cap6)
  have B7 := Lib.hid (B5.out.later hb7)
  have H7 := Lib.hid (H5.out.below hb7)
  have rk7 := (rowAt_below hb7 (b := w.heap.size + 1) (by have := hb1.size; have := hb2.size; have := hb4.size; simp at *; omega) 0 33).trans rk5.out
  have rm7 : rowAt (w6.alloc (.cells #[.int .i64 (ep + 1 + 1), .slice A6 n cap6] 24)) w4.heap.size 1 33 = some key.arr := by
    rw [rowAt_below hb7 (b := w4.heap.size) (by simp)]
    unfold rowAt; rw [RM5.out]; exact Mb.cutKey hmo
  obtain ⟨g0, g1, gh⟩ := X7.out
  obtain ⟨q0, q1, qh⟩ := B7.out
  have hke := run_eqRowK hk hk
  simp only [decide_true] at hke
  clear M6 f0 f1
  go_wp2_with fail
  refine (same_any ep ep A6 A n cap6 n cap ms ms _ M7.out H7.out).mono ?_
  rw [HS.out]
  rintro e w8 ⟨rfl, hb8⟩
  go_wp2_with fail
  go_ret
  obtain ⟨i1, j1⟩ := since hB (by simp; omega) hb1
  obtain ⟨i3, j3⟩ := since i1 j1 hb3
  obtain ⟨i5, j5⟩ := since i3 j3 hb5
  obtain ⟨i7, j7⟩ := since i5 j5 hb7
  exact ⟨rfl, (since i7 j7 hb8).1⟩

theorem back_walk (ep : Int) (A : Option Addr) (n cap : Nat) (id : Int) (key : Kb) (w : World) (we : (Lit.int .i64 ep).wf = true) (hn : n ≤ maxLen) (hm : n ≤ 140737488355328 → ∃ ms, MS w A n ms) (wi : (Lit.int .i64 id).wf = true) (hk : key.ok) :
    Calls Try.prog 8 #[.agg #[.int .i64 ep, .slice A n cap], .int .i64 id, .agg key.arr] w fun e w' => e = .returned (.bool true) ∧ Below w.heap.size w w' := by
  by_cases hl : n ≤ 10 ∧ ep ≤ 536870912
  · obtain ⟨ms, h⟩ := hm (by omega)
    exact back_near ep A n cap id key ms w h hl.1 hl.2 wi hk
  · exact back_far ep A n cap id key w (by omega)

set_option maxRecDepth 100000 in
theorem configBack_lifted (os : Os) (started : os.Started) (H : Type) (enc : TypeId × Value → H) :
    ReturnsInHanded {} Try.checked os 8 .any (Rows.configBackSpec.pre6 enc Try.prog Try.f8 Rows.configBackRow.domain false) (Rows.configBackSpec.post enc Try.prog Try.f8 false true false false) := by
  refine returnsInHanded_of_change (C := Try.checked) own started (by kernel_rfl) Try.func8
    (ChangeSpec.witness6 (enc := enc) (C := Try.checked) false ⟨#[], #[.agg #[.int .i64 0, .slice none 0 0], .int .i64 0, .agg Kb.zero.arr], []⟩ 8 (by kernel_rfl) (by kernel_rfl) (by kernel_rfl) (by kernel_rfl)) ?_
  intro W base args ds gs before hval0 hW hcnd _
  have hval : ∀ (j : Nat) t v, Try.f8.params[j]? = some t → args[j]? = some v → Value.okWide Try.prog W .any base t v := hval0
  have hW' := hW
  obtain ⟨p, q, hA0, hV, rfl, hfz, hnd⟩ := hW
  have hA : DataW.TrodAll enc Try.prog W 0 (fun _ => true) true Try.f8.params.toList args.toList ds p := hA0
  rw [Try.params8] at hA hval
  obtain ⟨v0, vs0, d0, ds0, p0, q0, hargs, rfl, rfl, h0, r0⟩ := trodAll_cons hA
  obtain ⟨v1, vs1, d1, ds1, p1, q1, rfl, rfl, rfl, h1, r1⟩ := trodAll_cons r0
  obtain ⟨v2, vs2, d2, ds2, p2, q2, rfl, rfl, rfl, h2, r2⟩ := trodAll_cons r1
  obtain ⟨rfl, rfl, rfl⟩ := trodAll_nil r2
  obtain rfl : args = #[v0, v1, v2] := by cases args; simp_all
  obtain ⟨rfl, rfl⟩ := trodVars_none hV
  have k0 := h0
  have lt0 : ∀ x ∈ p0, x.block < W.heap.size := by obtain ⟨m, hm⟩ := k0; exact DataW.trod_lt m _ _ _ hm
  obtain ⟨e0, A0, n0, c0, rfl, we0, wn0, wm0⟩ := open_config (hval 0 24 v0 rfl rfl) h0
  obtain ⟨a1, rfl, rfl, rfl, w1⟩ := open_int Try.underlying3 (hval 1 3 v1 rfl rfl) h1
  have k2 := h2
  have lt2 : ∀ x ∈ p2, x.block < W.heap.size := by obtain ⟨m, hm⟩ := k2; exact DataW.trod_lt m _ _ _ hm
  obtain ⟨x2, rfl, wx2⟩ := open_key (hval 2 33 v2 rfl rfl) h2
  clear hA0 hval0
  refine (back_walk e0 A0 n0 c0 a1 x2 W we0 wn0 wm0 w1 wx2).mono fun e W' ⟨he, bel⟩ => ?_
  subst he
  exact ⟨_, rfl, _, _, _, [], _, [], hW', trodAll_mk1 (shut_bool Try.underlying4 _), (trodAll_cons_mk (Below.trod laidOut (by kernel_rfl) (of_decide_eq_true (by kernel_rfl)) k0 bel lt0) (trodAll_cons_mk (shut_int Try.underlying3 w1) (trodAll_cons_mk (Below.trod laidOut (by kernel_rfl) (of_decide_eq_true (by kernel_rfl)) k2 bel lt2) trodAll_mk0))), rfl, bel.frame _, fun h => by cases h⟩

theorem configBack_holds : Rows.ConfigBackSaid :=
  OpenClaim.holds_of_wide 8 Try.f8 rfl rfl rfl rfl rfl rfl rfl ⟨rfl, rfl, rfl, rfl, rfl⟩ rfl rfl rfl rfl rfl (by kernel_rfl) Try.func8 (by kernel_rfl)
    (of_decide_eq_true (by kernel_rfl)) (by unfold Func.isWrapper; first | (rw [if_pos (by decide +kernel)]; kernel_rfl) | (rw [if_neg (by decide +kernel)]; exact ⟨rfl, rfl⟩))
    (fun os started H enc _ => configBack_lifted os started H enc)


end Go.Proofs.Ytmiaffgjfpjhfaa
