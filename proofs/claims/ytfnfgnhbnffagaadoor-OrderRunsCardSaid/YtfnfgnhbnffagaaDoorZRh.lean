/-
The document's answer: a list.
-/
import Derived.Test.YtfnfgnhbnffagaaDoorZRf
namespace Go.Proofs.YtfnfgnhbnffagaaDoor
open Go.RowKit
set_option linter.unusedVariables false
set_option linter.unusedSimpArgs false
set_option maxRecDepth 100000
@[go_sem ↓] theorem ap_Tq (ty : TypeId) (args : Array Value) : Builtin.append_ #[47, 47] ty args = apRow #[47, 47] ty args := rfl
theorem listP_snoc {ps : List Pr} {k : Nat} (h : k < ps.length) (key : ByteArray) : listP (ps.take (k + 1)) key = if hasPre (ps.getD k default).key key = true then listP (ps.take k) key ++ [(ps.getD k default).key] else listP (ps.take k) key := by
  unfold listP
  rw [take_snoc h, List.map_append, List.filter_append]
  generalize ps.getD k default = x
  cases hc : hasPre x.key key <;> simp [hc]
set_option maxHeartbeats 8000000 in
theorem rdoes_5 (v : Value) (ps : List Pr) (rs : List Rp) (ep : Int) (ms : List Mb) (op : Opn) (N : Nat → Prop) (w : World) (hN : ∀ w'', Mv N w w'' → StS w'' v ps rs ep ms) (hs : SrtP ps) (ho : op.ok) (hk : op.kind = 5) (hn : ps.length ≤ 10000) : Calls Tryd.prog 22 #[v, .agg op.arr] w (DoesQ N ps rs ep ms op w) := by
  have h := hN w (Mv.refl _ _)
  obtain ⟨Ap, cp, Ar, cr, Am, cm, hv, hP, hSp, -⟩ := h.ex
  obtain ⟨np, hnp⟩ : ∃ n, ps.length = n := ⟨_, rfl⟩
  obtain ⟨nr, hnr⟩ : ∃ n, rs.length = n := ⟨_, rfl⟩
  obtain ⟨nm, hnm⟩ : ∃ n, ms.length = n := ⟨_, rfl⟩
  rw [hnp] at hP hSp
  rw [hnp, hnr, hnm] at hv
  subst hv
  have HB := Lib.hid hN
  clear hN
  have os := Opn.sz ho
  have oo := op.ones
  have a0 : op.arr[0]? = some (.int .i64 5) := by rw [op.at0, hk]
  have a1 := op.at1
  have D := Df.start w #[.slice Ap np cp, .slice Ar nr cr, .int .i64 ep, .slice Am nm cm] op #[.slice none 0 0, .slice none 0 0, .int .i64 0, .slice none 0 0]
  obtain ⟨w3, hw3⟩ : ∃ w3, (((w.alloc (.cells #[.slice Ap np cp, .slice Ar nr cr, .int .i64 ep, .slice Am nm cm] 28)).alloc (.cells op.arr 44)).alloc (.cells #[.slice none 0 0, .slice none 0 0, .int .i64 0, .slice none 0 0] 28)) = w3 := ⟨_, rfl⟩
  rw [hw3] at D
  have H := Lib.hid (And.intro h (And.intro hs (And.intro ho (And.intro D (And.intro hP (And.intro hSp hnp))))))
  obtain ⟨rs0, ⟨c0, c2, c3⟩, ⟨o0, o1, o2, o3⟩, oc, f0, f2, f3⟩ := D.facts H.out.2.2.1
  rw [hk] at o0
  clear h hs ho D hP hSp hnp hnr hnm
  go_enter Tryd.func22, Tryd.ntmps22
  go_wp2_with fail
  clear hw3 a0 a1 os oo
  clear rs0 c0 c2 c3 o0 o1 o2 o3 oc f0 f2 f3
  refine (place10_any _ ps rs ep ms op.key _ (H.out.1.below H.out.2.2.2.1.b)).mono ?_
  rintro e w4 ⟨⟨i, rfl, hi⟩, hb4⟩
  have hat := at_pair H.out.2.1 hi
  have D4 := H.out.2.2.2.1.below hb4
  obtain ⟨rs0, ⟨c0, c2, c3⟩, ⟨o0, o1, o2, o3⟩, oc, f0, f2, f3⟩ := D4.facts H.out.2.2.1
  rw [hk] at o0
  clear hi hb4
  have hni : (np : Int) ≤ 10000 := by have := H.out.2.2.2.2.2.2; omega
  have hks : (op.key.size : Int) ≤ 140737488355328 := by have := H.out.2.2.1.key; omega
  have hat' : (∃ k : Nat, i = (k : Int) ∧ pairB ps op.key = true) ∨ (i = -1 ∧ pairB ps op.key = false) := hat.elim (fun h => .inr h) (fun h => .inl ⟨_, h⟩)
  clear hat
  have G := Lib.hid D4
  clear D4
  rcases hat' with ⟨k0, rfl, hpb⟩ | ⟨rfl, hpb⟩
  have hkk : (0 : Int) ≤ k0 := by omega
  all_goals
    clear hpb
    go_wp2_with fail
    clear rs0 c0 c2 c3 o0 o1 o2 o3 oc f0 f2 f3
    go_loopw [8, 10, 111] (fun t8 t10 t111 wr => ∃ k : Nat, k ≤ np ∧ t111 = .int .i64 k ∧ ∃ A5 m c5, t8 = .slice A5 m c5 ∧ m = (listP (ps.take k) op.key).length ∧ m ≤ k ∧ OT wr w4.heap.size (.slice A5 m c5) (listP (ps.take k) op.key) ∧ Below w4.heap.size w4 wr) (fun _ _ t _ => np - (intOf t).toNat)
    case atStart => exact ⟨0, by omega, rfl, none, 0, 0, rfl, rfl, by omega, ot_nil _ _, Below.refl _ _⟩
    case round =>
      obtain ⟨k, hk', rfl, A5, m, c5, rfl, hm, hmk, ho, hb⟩ := hrel
      have hk0 : (0 : Int) ≤ k := by omega
      by_cases hlt : k < np
      · have hk1 : (k : Int) < np := by omega
        obtain ⟨b, off, rfl, hbb, hrow⟩ := H.out.2.2.2.2.1.mem (by omega)
        have hr := (rowAt_below (G.out.b.trans (hb.mono G.out.b.size)) hbb _ _).trans (hrow k hlt)
        have hok := H.out.2.2.2.2.1.okAt hlt
        have hsn := listP_snoc (ps := ps) (k := k) (by rw [H.out.2.2.2.2.2.2]; exact hlt) op.key
        obtain ⟨x, hx⟩ : ∃ x, ps.getD k default = x := ⟨_, rfl⟩
        rw [hx] at hr hok hsn
        obtain ⟨xk, xv⟩ := x
        replace hr : rowAt wr b (off + k * 2) 2 = some #[.string xk, .string xv] := hr
        have hxs : (xk.size : Int) ≤ 140737488355328 := by have : xk.size ≤ 140737488355328 := hok.k; omega
        replace hsn : listP (ps.take (k + 1)) op.key = if hasPre xk op.key = true then listP (ps.take k) op.key ++ [xk] else listP (ps.take k) op.key := hsn
        obtain ⟨w6, hw6⟩ : ∃ w6, wr.alloc (.cells #[.string xk, .string xv] 75) = w6 := ⟨_, rfl⟩
        have hb6 : Below wr.heap.size wr w6 := by rw [← hw6]; exact (Below.refl _ _).alloc (Nat.le_refl _) _
        have hg6 : w6.heap[wr.heap.size]? = some (.cells #[.string xk, .string xv] 75 (0, 0)) := by rw [← hw6]; exact heap_alloc_new wr _
        have hl6 : wr.heap.size < w6.heap.size := (Array.getElem?_eq_some_iff.1 hg6).1
        have hB6 := hb.trans (hb6.mono hb.size)
        have KK : ∀ w', Below w6.heap.size w6 w' → w'.cell? ⟨wr.heap.size, 0, none⟩ = some (.string xk) ∧ w'.cell? ⟨w.heap.size + 1, 1, none⟩ = some (.string op.key) ∧ OT w' w4.heap.size (.slice A5 m c5) (listP (ps.take k) op.key) ∧ Below w4.heap.size w4 w' := fun w' hb' => by
          have B := hB6.trans (hb'.mono hB6.size)
          have D := G.out.below B
          exact ⟨cell_of_row ((hb'.block _ hl6).trans hg6) rfl, cell_of_row D.o op.at1, (ho.below hb6).below hb', B⟩
        obtain ⟨k1, k2, -⟩ := KK w6 (Below.refl _ _)
        have E := Lib.hid (And.intro KK (And.intro hm (And.intro hmk hsn)))
        clear KK hm hmk hsn hx ho hb hb6 hg6 hB6 hrow hok
        go_wp2_with fail
        clear hw6
        by_cases hle : (op.key.size : Int) ≤ xk.size
        · cases hx : (xk.extract 0 op.key.size).toList == op.key.toList with
          | true =>
            have HP := Lib.hid (show hasPre xk op.key = true by unfold hasPre; rw [decide_eq_true (by omega), hx]; rfl)
            go_quiet (fail)
            have hq : Below w6.heap.size w6 (w6.drewN nq) := below_drewN (Below.refl _ _) nq
            clear k1 k2
            generalize w6.drewN nq = w7 at hq ⊢
            obtain ⟨k1, k2, ho, hB⟩ := E.out.1 w7 hq
            have hr7 : rowAt w7 wr.heap.size 0 1 = some #[.string xk] := rowAt_of_rangeAt (cs := [.string xk]) (fun j v hv => by match j, hv with | 0, hv => (simp at hv; subst hv; exact k1)) rfl (by decide)
            have hml : (listP (ps.take k) op.key).length = m := E.out.2.1.symm
            have ho' := ho
            obtain ⟨v8, w8, r8, o8, b8⟩ := ot_push 47 ho xk (by have := E.out.2.2.1; omega) hB.size
            obtain ⟨A8, c8, rfl⟩ := ot_shape o8 rfl
            have hl8 : (listP (ps.take k) op.key ++ [xk]).length = m + 1 := by rw [List.length_append, hml]; rfl
            rw [hl8] at r8 o8
            have F := Lib.hid (And.intro o8 (hB.trans b8))
            clear o8 b8 ho ho' hB hq hl8 hml hr7
            go_wp2_with fail
            go_roundw
            case rel =>
              refine ⟨k + 1, by omega, by go_num, A8, m + 1, c8, rfl, ?_, by have := E.out.2.2.1; omega, ?_, F.out.2⟩
              · rw [E.out.2.2.2, if_pos HP.out, List.length_append, ← E.out.2.1]; rfl
              · rw [E.out.2.2.2, if_pos HP.out]; exact F.out.1
            case measure => simp [intOf]; omega
          | false =>
            have HP := Lib.hid (show hasPre xk op.key = false by unfold hasPre; rw [decide_eq_true (by omega), hx]; rfl)
            go_quiet (fail)
            have hq : Below w6.heap.size w6 (w6.drewN nq) := below_drewN (Below.refl _ _) nq
            clear k1 k2
            generalize w6.drewN nq = w7 at hq ⊢
            obtain ⟨k1, k2, ho, hB⟩ := E.out.1 w7 hq
            have F := Lib.hid (And.intro ho hB)
            clear ho hB hq
            go_wp2_with fail
            go_roundw
            case rel =>
              refine ⟨k + 1, by omega, by go_num, A5, m, c5, rfl, ?_, by have := E.out.2.2.1; omega, ?_, F.out.2⟩
              · rw [E.out.2.2.2, if_neg (by rw [HP.out]; decide)]; exact E.out.2.1
              · rw [E.out.2.2.2, if_neg (by rw [HP.out]; decide)]; exact F.out.1
            case measure => simp [intOf]; omega
        · have HP := Lib.hid (show hasPre xk op.key = false by unfold hasPre; rw [decide_eq_false (by omega)]; rfl)
          go_quiet (fail)
          have hq : Below w6.heap.size w6 (w6.drewN nq) := below_drewN (Below.refl _ _) nq
          clear k1 k2
          generalize w6.drewN nq = w7 at hq ⊢
          obtain ⟨k1, k2, ho, hB⟩ := E.out.1 w7 hq
          have F := Lib.hid (And.intro ho hB)
          clear ho hB hq
          go_wp2_with fail
          go_roundw
          case rel =>
            refine ⟨k + 1, by omega, by go_num, A5, m, c5, rfl, ?_, by have := E.out.2.2.1; omega, ?_, F.out.2⟩
            · rw [E.out.2.2.2, if_neg (by rw [HP.out]; decide)]; exact E.out.2.1
            · rw [E.out.2.2.2, if_neg (by rw [HP.out]; decide)]; exact F.out.1
          case measure => simp [intOf]; omega
      · have hkn : k = np := by omega
        have hfull : ps.take k = ps := List.take_of_length_le (by rw [H.out.2.2.2.2.2.2]; omega)
        rw [hfull] at hm ho
        have D6 := G.out.below hb
        obtain ⟨p1, p2, D7⟩ := D6.put (R' := #[.slice Ap np cp, .slice Ar nr cr, .int .i64 ep, .slice Am nm cm]) rfl rfl (st_ones _ _ _ _ _ _ _ _ _ _)
        have ho7 : OT (wr.setRow (w.heap.size + 1 + 1) #[.slice Ap np cp, .slice Ar nr cr, .int .i64 ep, .slice Am nm cm]) w4.heap.size (.slice A5 m c5) (listP ps op.key) := own_mv ho (Mv.setRow (fp := (· = w.heap.size + 1 + 1)) _ _ _ rfl) (fun g hg c => by have := (own_lt ho hg).1; have := G.out.lt; omega)
        obtain ⟨A', c', hv, -, S7⟩ := ho7.ts (by omega)
        rw [← hm] at hv S7
        cases hv
        have T7 : ∀ w'', Mv (Nb N w) (wr.setRow (w.heap.size + 1 + 1) #[.slice Ap np cp, .slice Ar nr cr, .int .i64 ep, .slice Am nm cm]) w'' → TS w'' A5 m (listP ps op.key) := fun w'' mm => by
          have o9 : OT w'' w4.heap.size (.slice A5 m c5) (listP ps op.key) := nb_own mm ho7 (by have := G.out.lt; omega)
          obtain ⟨A', c', hv, T9, -⟩ := o9.ts (by omega)
          rw [← hm] at hv T9
          cases hv
          exact T9
        obtain ⟨rs0, ⟨c0, c2, c3⟩, ⟨o0, o1, o2, o3⟩, oc, f0, f2, f3⟩ := D6.facts H.out.2.2.1
        rw [hk] at o0
        have F := Lib.hid (And.intro D7 (And.intro T7 S7))
        clear D6 D7 T7 S7 ho ho7 hb hm hfull
        go_wp2_with fail
        refine bodyPost_ret (v := .tuple #[.agg #[.slice Ap np cp, .slice Ar nr cr, .int .i64 ep, .slice Am nm cm], .int .i64 0, .slice A5 m c5]) (by rw [results_cell3 Tryd.results22]; simp [go_sem, p2]) rfl ?_
        refine ⟨_, 0, A5, m, c5, ps, ep, ms, listP ps op.key, rfl, (fun w'' m => ⟨HB.out w'' (nb_old F.out.1.b m), F.out.2.1 w'' m⟩), F.out.2.2, ?_, F.out.1.b⟩
        unfold doesP; rw [hk]; simp
end Go.Proofs.YtfnfgnhbnffagaaDoor

/-
The document's answer: the configuration, told and changed.
-/
namespace Go.Proofs.YtfnfgnhbnffagaaDoor
open Go.RowKit
set_option linter.unusedVariables false
set_option linter.unusedSimpArgs false
set_option maxRecDepth 100000
@[go_sem ↓] theorem ap_Th (ty : TypeId) (args : Array Value) : Builtin.append_ #[47, 47] ty args = apRow #[47, 47] ty args := rfl
theorem cfgP_snoc {ms : List Mb} {k : Nat} (h : k < ms.length) (ep : Int) : cfgP ep (ms.take (k + 1)) = cfgP ep (ms.take k) ++ [itoaB (ms.getD k default).id] := by
  unfold cfgP
  rw [take_snoc h, List.map_append]; rfl
theorem appE_good {ep : Int} {ms : List Mb} {x : Chg} (h : appE ep ms x = 0) : goodB ep ms = true := by
  unfold appE at h
  split at h
  · rename_i hg; exact hg.1
  · cases h
theorem ref8L_len {ms : List Mb} {x : Chg} : (ref8L ms x).length ≤ 2 * ms.length + 1 := by
  have h1 := withM_len (ms := withoutM ms x.id) (x := memOf x)
  have h2 := withM_len (ms := ms) (x := memOf x)
  have h3 := withoutM_len (ms := ms) (id := x.id)
  by_cases k1 : x.kind = 1
  · by_cases k2 : x.kind = 2
    · omega
    · unfold ref8L; simp only [if_pos k1, if_neg k2]; omega
  · by_cases k2 : x.kind = 2
    · unfold ref8L; simp only [if_neg k1, if_pos k2]; omega
    · unfold ref8L; simp only [if_neg k1, if_neg k2]; omega
theorem cfgP_len {ms : List Mb} {k : Nat} (h : k ≤ ms.length) (ep : Int) : (cfgP ep (ms.take k)).length = k + 1 := by
  unfold cfgP
  rw [List.length_cons, List.length_map, List.length_take, Nat.min_eq_left h]
set_option maxHeartbeats 8000000 in
theorem rdoes_6 (v : Value) (ps : List Pr) (rs : List Rp) (ep : Int) (ms : List Mb) (op : Opn) (N : Nat → Prop) (w : World) (hN : ∀ w'', Mv N w w'' → StS w'' v ps rs ep ms) (hs : SrtP ps) (ho : op.ok) (hk : op.kind = 6) (hmm : ms.length ≤ 90000 ∧ (Lit.int .i64 ep).wf = true ∧ Pow w) : Calls Tryd.prog 22 #[v, .agg op.arr] w (DoesQ N ps rs ep ms op w) := by
  have h := hN w (Mv.refl _ _)
  obtain ⟨Ap, cp, Ar, cr, Am, cm, hv, hP, hSp, -, -, hM, hSm, -⟩ := h.ex
  obtain ⟨np, hnp⟩ : ∃ n, ps.length = n := ⟨_, rfl⟩
  obtain ⟨nr, hnr⟩ : ∃ n, rs.length = n := ⟨_, rfl⟩
  obtain ⟨nm, hnm⟩ : ∃ n, ms.length = n := ⟨_, rfl⟩
  rw [hnp] at hP hSp
  rw [hnm] at hM hSm
  have HM := Lib.hid (And.intro hM (And.intro hSm hnm))
  clear hM hSm
  rw [hnp, hnr, hnm] at hv
  subst hv
  have HB := Lib.hid hN
  clear hN
  have os := Opn.sz ho
  have oo := op.ones
  have a0 : op.arr[0]? = some (.int .i64 6) := by rw [op.at0, hk]
  have a1 := op.at1
  have D := Df.start w #[.slice Ap np cp, .slice Ar nr cr, .int .i64 ep, .slice Am nm cm] op #[.slice none 0 0, .slice none 0 0, .int .i64 0, .slice none 0 0]
  obtain ⟨w3, hw3⟩ : ∃ w3, (((w.alloc (.cells #[.slice Ap np cp, .slice Ar nr cr, .int .i64 ep, .slice Am nm cm] 28)).alloc (.cells op.arr 44)).alloc (.cells #[.slice none 0 0, .slice none 0 0, .int .i64 0, .slice none 0 0] 28)) = w3 := ⟨_, rfl⟩
  rw [hw3] at D
  have H := Lib.hid (And.intro h (And.intro hs (And.intro ho (And.intro D (And.intro hP (And.intro hSp hnp))))))
  obtain ⟨rs0, ⟨c0, c2, c3⟩, ⟨o0, o1, o2, o3⟩, oc, f0, f2, f3⟩ := D.facts H.out.2.2.1
  rw [hk] at o0
  clear h hs ho D hP hSp hnp hnr hnm
  go_enter Tryd.func22, Tryd.ntmps22
  go_wp2_with fail
  clear hw3 a0 a1 os oo
  clear rs0 c0 c2 c3 o0 o1 o2 o3 oc f0 f2 f3
  refine (place10_any _ ps rs ep ms op.key _ (H.out.1.below H.out.2.2.2.1.b)).mono ?_
  rintro e w4 ⟨⟨i, rfl, hi⟩, hb4⟩
  have hat := at_pair H.out.2.1 hi
  have D4 := H.out.2.2.2.1.below hb4
  obtain ⟨rs0, ⟨c0, c2, c3⟩, ⟨o0, o1, o2, o3⟩, oc, f0, f2, f3⟩ := D4.facts H.out.2.2.1
  rw [hk] at o0
  clear hi hb4
  have hni : (nm : Int) ≤ 90000 := by have := HM.out.2.2; have := hmm.1; omega
  have HW := Lib.hid hmm
  clear hmm
  have hat' : (∃ k : Nat, i = (k : Int) ∧ pairB ps op.key = true) ∨ (i = -1 ∧ pairB ps op.key = false) := hat.elim (fun h => .inr h) (fun h => .inl ⟨_, h⟩)
  clear hat
  have hl4 := D4.lt
  have hlo : w.heap.size < w4.heap.size := by omega
  have G := Lib.hid D4
  clear D4 hl4
  rcases hat' with ⟨k0, rfl, hpb⟩ | ⟨rfl, hpb⟩
  have hkk : (0 : Int) ≤ k0 := by omega
  all_goals
    clear hpb
    have hit := itoa_any ep HW.out.2.1 w4 (HW.out.2.2.below G.out.b)
    go_wp2_with fail
    refine hit.mono ?_
    rintro e w5 ⟨rfl, hb5⟩
    clear rs0 c0 c2 c3 o0 o1 o2 o3 oc f0 f2 f3
    have D5 := G.out.below hb5
    obtain ⟨rs0, ⟨c0, c2, c3⟩, ⟨o0, o1, o2, o3⟩, oc, f0, f2, f3⟩ := D5.facts H.out.2.2.1
    rw [hk] at o0
    have ho5 : OT (w5.alloc (.cells #[.string (itoaB ep)] 9)) w4.heap.size (.slice (some ⟨w5.heap.size, 0, none⟩) 1 1) [itoaB ep] := own_of_block hb5.size (heap_alloc_new w5 _) (Nat.le_refl _) (by decide) rfl rfl
    have bb5 : Below w4.heap.size w4 (w5.alloc (.cells #[.string (itoaB ep)] 9)) := hb5.trans (((Below.refl _ _).alloc (Nat.le_refl _) _).mono hb5.size)
    have hlo5 : w.heap.size < w5.heap.size := Nat.lt_of_lt_of_le hlo hb5.size
    have G5 := Lib.hid (And.intro ho5 bb5)
    clear D5 ho5 bb5 hb5 hit
    go_wp2_with fail
    clear rs0 c0 c2 c3 o0 o1 o2 o3 oc f0 f2 f3
    go_loopw [11, 13, 152] (fun t11 t13 t152 wr => ∃ k : Nat, k ≤ nm ∧ t152 = .int .i64 k ∧ ∃ A5 c5, t11 = .slice A5 (k + 1) c5 ∧ OT wr w4.heap.size (.slice A5 (k + 1) c5) (cfgP ep (ms.take k)) ∧ Below w4.heap.size w4 wr) (fun _ _ t _ => nm - (intOf t).toNat)
    case atStart => exact ⟨0, by omega, rfl, _, 1, rfl, G5.out.1, G5.out.2⟩
    case round =>
      clear G5 hlo5
      obtain ⟨k, hk', rfl, A5, c5, rfl, ho, hb⟩ := hrel
      have hk0 : (0 : Int) ≤ k := by omega
      by_cases hlt : k < nm
      · have hk1 : (k : Int) < nm := by omega
        obtain ⟨b, off, rfl, hbb, hrow⟩ := HM.out.1.mem (by omega)
        have hr := (rowAt_below (G.out.b.trans (hb.mono G.out.b.size)) hbb _ _).trans (hrow k hlt)
        have hok := HM.out.1.okAt hlt
        have hsn := cfgP_snoc (ms := ms) (k := k) (by rw [HM.out.2.2]; exact hlt) ep
        have hln := cfgP_len (ms := ms) (k := k) (by rw [HM.out.2.2]; omega) ep
        obtain ⟨m, hx⟩ : ∃ m, ms.getD k default = m := ⟨_, rfl⟩
        rw [hx] at hr hok hsn
        have m0 := m.at0
        have m1 := Mb.sz hok
        have m2 := m.ones
        obtain ⟨w6, hw6⟩ : ∃ w6, wr.alloc (.cells m.arr 60) = w6 := ⟨_, rfl⟩
        have hb6 : Below wr.heap.size wr w6 := by rw [← hw6]; exact (Below.refl _ _).alloc (Nat.le_refl _) _
        have hg6 : w6.heap[wr.heap.size]? = some (.cells m.arr 60 (0, 0)) := by rw [← hw6]; exact heap_alloc_new wr _
        have k60 : w6.cell? ⟨wr.heap.size, 0, none⟩ = some (.int .i64 m.id) := cell_of_row hg6 m0
        have hB6 := hb.trans (hb6.mono hb.size)
        have hit := itoa_any m.id hok.id w6 (HW.out.2.2.below (G.out.b.trans (hB6.mono G.out.b.size)))
        have E := Lib.hid (And.intro (ho.below hb6) (And.intro hB6 (And.intro hsn hln)))
        clear ho hb hb6 hB6 hsn hln hx hrow hg6 hok
        go_wp2_with fail
        clear hw6 k60
        refine hit.mono ?_
        rintro e w7 ⟨rfl, hb7⟩
        obtain ⟨v8, w8, r8, o8, b8⟩ := ot_push 47 (E.out.1.below hb7) (itoaB m.id) (by have := E.out.2.2.2; omega) (Nat.le_trans E.out.2.1.size hb7.size)
        obtain ⟨A8, c8, rfl⟩ := ot_shape o8 rfl
        have hl8 : (cfgP ep (ms.take k) ++ [itoaB m.id]).length = k + 1 + 1 := by rw [List.length_append, E.out.2.2.2]; rfl
        rw [hl8] at r8 o8
        have F := Lib.hid (And.intro o8 ((E.out.2.1.trans (hb7.mono E.out.2.1.size)).trans b8))
        clear o8 b8 hb7 hl8 hit
        go_wp2_with fail
        go_roundw
        case rel =>
          refine ⟨k + 1, by omega, by go_num, A8, c8, rfl, ?_, F.out.2⟩
          rw [E.out.2.2.1]; exact F.out.1
        case measure => simp [intOf]; omega
      · have hkn : k = nm := by omega
        have hfull : ms.take k = ms := List.take_of_length_le (by rw [HM.out.2.2]; omega)
        have hln := cfgP_len (ms := ms) (k := k) (by rw [HM.out.2.2]; omega) ep
        rw [hfull] at ho hln
        have D6 := G.out.below hb
        obtain ⟨p1, p2, D7⟩ := D6.put (R' := #[.slice Ap np cp, .slice Ar nr cr, .int .i64 ep, .slice Am nm cm]) rfl rfl (st_ones _ _ _ _ _ _ _ _ _ _)
        have ho7 : OT (wr.setRow (w.heap.size + 1 + 1) #[.slice Ap np cp, .slice Ar nr cr, .int .i64 ep, .slice Am nm cm]) w4.heap.size (.slice A5 (k + 1) c5) (cfgP ep ms) := own_mv ho (Mv.setRow (fp := (· = w.heap.size + 1 + 1)) _ _ _ rfl) (fun g hg c => by have := (own_lt ho hg).1; have := G.out.lt; omega)
        obtain ⟨A', c', hv, -, S7⟩ := ho7.ts (by omega)
        rw [hln] at hv S7
        cases hv
        have T7 : ∀ w'', Mv (Nb N w) (wr.setRow (w.heap.size + 1 + 1) #[.slice Ap np cp, .slice Ar nr cr, .int .i64 ep, .slice Am nm cm]) w'' → TS w'' A5 (k + 1) (cfgP ep ms) := fun w'' mm => by
          have o9 : OT w'' w4.heap.size (.slice A5 (k + 1) c5) (cfgP ep ms) := nb_own mm ho7 (by have := G.out.lt; omega)
          obtain ⟨A', c', hv, T9, -⟩ := o9.ts (by omega)
          rw [hln] at hv T9
          cases hv
          exact T9
        obtain ⟨rs0, ⟨c0, c2, c3⟩, ⟨o0, o1, o2, o3⟩, oc, f0, f2, f3⟩ := D6.facts H.out.2.2.1
        rw [hk] at o0
        have F := Lib.hid (And.intro D7 (And.intro T7 S7))
        clear D6 D7 T7 S7 ho ho7 hb hfull hln
        go_wp2_with fail
        refine bodyPost_ret (v := .tuple #[.agg #[.slice Ap np cp, .slice Ar nr cr, .int .i64 ep, .slice Am nm cm], .int .i64 0, .slice A5 (k + 1) c5]) (by rw [results_cell3 Tryd.results22]; simp [go_sem, p2]) rfl ?_
        refine ⟨_, 0, A5, k + 1, c5, ps, ep, ms, cfgP ep ms, rfl, (fun w'' m => ⟨HB.out w'' (nb_old F.out.1.b m), F.out.2.1 w'' m⟩), F.out.2.2, ?_, F.out.1.b⟩
        unfold doesP; rw [hk]; simp
set_option maxHeartbeats 8000000 in
theorem rdoes_7 (v : Value) (ps : List Pr) (rs : List Rp) (ep : Int) (ms : List Mb) (op : Opn) (N : Nat → Prop) (w : World) (hN : ∀ w'', Mv N w w'' → StS w'' v ps rs ep ms) (hs : SrtP ps) (ho : op.ok) (hk : op.kind = 7) : Calls Tryd.prog 22 #[v, .agg op.arr] w (DoesQ N ps rs ep ms op w) := by
  have h := hN w (Mv.refl _ _)
  obtain ⟨Ap, cp, Ar, cr, Am, cm, hv, hP, hSp, -, -, hM, hSm, -⟩ := h.ex
  obtain ⟨np, hnp⟩ : ∃ n, ps.length = n := ⟨_, rfl⟩
  obtain ⟨nr, hnr⟩ : ∃ n, rs.length = n := ⟨_, rfl⟩
  obtain ⟨nm, hnm⟩ : ∃ n, ms.length = n := ⟨_, rfl⟩
  rw [hnp] at hP hSp
  rw [hnm] at hM hSm
  have HM := Lib.hid (And.intro hM (And.intro hSm hnm))
  clear hM hSm
  rw [hnp, hnr, hnm] at hv
  subst hv
  have HB := Lib.hid hN
  clear hN
  have os := Opn.sz ho
  have oo := op.ones
  have a0 : op.arr[0]? = some (.int .i64 7) := by rw [op.at0, hk]
  have a1 := op.at1
  have D := Df.start w #[.slice Ap np cp, .slice Ar nr cr, .int .i64 ep, .slice Am nm cm] op #[.slice none 0 0, .slice none 0 0, .int .i64 0, .slice none 0 0]
  obtain ⟨w3, hw3⟩ : ∃ w3, (((w.alloc (.cells #[.slice Ap np cp, .slice Ar nr cr, .int .i64 ep, .slice Am nm cm] 28)).alloc (.cells op.arr 44)).alloc (.cells #[.slice none 0 0, .slice none 0 0, .int .i64 0, .slice none 0 0] 28)) = w3 := ⟨_, rfl⟩
  rw [hw3] at D
  have H := Lib.hid (And.intro h (And.intro hs (And.intro ho (And.intro D (And.intro hP (And.intro hSp hnp))))))
  obtain ⟨rs0, ⟨c0, c2, c3⟩, ⟨o0, o1, o2, o3⟩, oc, f0, f2, f3⟩ := D.facts H.out.2.2.1
  rw [hk] at o0
  clear h hs ho D hP hSp hnp hnr hnm
  go_enter Tryd.func22, Tryd.ntmps22
  go_wp2_with fail
  clear hw3 a0 a1 os oo
  clear rs0 c0 c2 c3 o0 o1 o2 o3 oc f0 f2 f3
  refine (place10_any _ ps rs ep ms op.key _ (H.out.1.below H.out.2.2.2.1.b)).mono ?_
  rintro e w4 ⟨⟨i, rfl, hi⟩, hb4⟩
  have hat := at_pair H.out.2.1 hi
  have D4 := H.out.2.2.2.1.below hb4
  obtain ⟨rs0, ⟨c0, c2, c3⟩, ⟨o0, o1, o2, o3⟩, oc, f0, f2, f3⟩ := D4.facts H.out.2.2.1
  rw [hk] at o0
  clear hi hb4
  have hat' : (∃ k : Nat, i = (k : Int) ∧ pairB ps op.key = true) ∨ (i = -1 ∧ pairB ps op.key = false) := hat.elim (fun h => .inr h) (fun h => .inl ⟨_, h⟩)
  clear hat
  have hl4 := D4.lt
  have G := Lib.hid D4
  clear D4
  rcases hat' with ⟨k0, rfl, hpb⟩ | ⟨rfl, hpb⟩
  have hkk : (0 : Int) ≤ k0 := by omega
  all_goals
    clear hpb
    go_wp2_with fail
    refine (apply08_any ep Am nm cm ms op.chg w4 (HM.out.1.below G.out.b) HM.out.2.1 H.out.2.2.1.chg).mono ?_
    rintro e w5 ⟨ep', A', m', c', L, rfl, hL, hown, hml, hokL, hb5⟩
    clear rs0 c0 c2 c3 o0 o1 o2 o3 oc f0 f2 f3
    have D5 := G.out.below hb5
    by_cases hE : appE ep ms op.chg = 0
    · obtain ⟨rfl, rfl⟩ := hL hE
      rw [hE]
      obtain ⟨w6, hw6⟩ : ∃ w6, w5.alloc (.cells #[.int .i64 (ep + 1), .slice A' m' c'] 26) = w6 := ⟨_, rfl⟩
      have hb6 : Below w5.heap.size w5 w6 := by rw [← hw6]; exact (Below.refl _ _).alloc (Nat.le_refl _) _
      have hg6 : w6.heap[w5.heap.size]? = some (.cells #[.int .i64 (ep + 1), .slice A' m' c'] 26 (0, 0)) := by rw [← hw6]; exact heap_alloc_new w5 _
      have q0 : w6.cell? ⟨w5.heap.size, 0, none⟩ = some (.int .i64 (ep + 1)) := cell_of_row hg6 rfl
      have q1 : w6.cell? ⟨w5.heap.size, 1, none⟩ = some (.slice A' m' c') := cell_of_row hg6 rfl
      have D6 := D5.below hb6
      have D7 : Df w #[.slice Ap np cp, .slice Ar nr cr, .int .i64 (ep + 1), .slice Am nm cm] op #[.slice none 0 0, .slice none 0 0, .int .i64 0, .slice none 0 0] (w6.setCell ⟨w.heap.size, 2, none⟩ (.int .i64 (ep + 1))) := D6.set 2 _
      have D8 : Df w #[.slice Ap np cp, .slice Ar nr cr, .int .i64 (ep + 1), .slice A' m' c'] op #[.slice none 0 0, .slice none 0 0, .int .i64 0, .slice none 0 0] ((w6.setCell ⟨w.heap.size, 2, none⟩ (.int .i64 (ep + 1))).setCell ⟨w.heap.size, 3, none⟩ (.slice A' m' c')) := D7.set 3 _
      obtain ⟨p1, p2, D9⟩ := D8.put (R' := #[.slice Ap np cp, .slice Ar nr cr, .int .i64 (ep + 1), .slice A' m' c']) rfl rfl (st_ones _ _ _ _ _ _ _ _ _ _)
      obtain ⟨-, -, -, -, -, -, f73⟩ := D7.facts H.out.2.2.1
      obtain ⟨-, ⟨-, -, c73⟩, -⟩ := D7.facts H.out.2.2.1
      obtain ⟨r8, -⟩ := D8.facts H.out.2.2.1
      have mv : Mv (fun k => k = w.heap.size ∨ k = w.heap.size + 1 + 1) w6 (((w6.setCell ⟨w.heap.size, 2, none⟩ (.int .i64 (ep + 1))).setCell ⟨w.heap.size, 3, none⟩ (.slice A' m' c')).setRow (w.heap.size + 1 + 1) #[.slice Ap np cp, .slice Ar nr cr, .int .i64 (ep + 1), .slice A' m' c']) := ((Mv.setCell (fp := fun k => k = w.heap.size ∨ k = w.heap.size + 1 + 1) _ _ _ (.inl rfl)).trans (Mv.setCell (fp := fun k => k = w.heap.size ∨ k = w.heap.size + 1 + 1) _ _ _ (.inl rfl)) (fun _ _ c => c)).trans (Mv.setRow (fp := fun k => k = w.heap.size ∨ k = w.heap.size + 1 + 1) _ _ _ (.inr rfl)) (fun _ _ c => c)
      have hown6 := own_mv (fp := fun _ => False) hown (Mv.of_below hb6) (fun _ _ c => c)
      have own9 := own_mv hown6 mv (fun g hg c => by have := (own_lt hown6 hg).1; rcases c with c | c <;> omega)
      have hS9 : ∀ w'', Mv (Nb N w) (((w6.setCell ⟨w.heap.size, 2, none⟩ (.int .i64 (ep + 1))).setCell ⟨w.heap.size, 3, none⟩ (.slice A' m' c')).setRow (w.heap.size + 1 + 1) #[.slice Ap np cp, .slice Ar nr cr, .int .i64 (ep + 1), .slice A' m' c']) w'' → StS w'' (.agg #[.slice Ap np cp, .slice Ar nr cr, .int .i64 (ep + 1), .slice A' m' c']) ps rs (ep + 1) (ref8L ms op.chg) := fun w'' mm => by
        have own10 := nb_own mm own9 (by omega)
        obtain ⟨A9, c9, hv, M9⟩ := MS_of_own own10 hokL (by have := ref8L_len (ms := ms) (x := op.chg); have := good_ten (appE_good hE); omega)
        cases hv
        obtain ⟨_, _, hv, so, -⟩ := own_shape own10
        cases hv
        exact (HB.out w'' (nb_old D9.b mm)).members (ep' := ep + 1) (cap := c') (Below.refl _ _) M9 so
      obtain ⟨rs0, ⟨c0, c2, c3⟩, ⟨o0, o1, o2, o3⟩, oc, f0, f2, f3⟩ := D6.facts H.out.2.2.1
      rw [hk] at o0
      have F := Lib.hid (And.intro D9 (And.intro hS9 hE))
      clear D5 D6 D7 D8 D9 hb5 hb6 hg6 hown hown6 own9 hS9 mv hokL hml hL hE
      go_wp2_with fail
      refine bodyPost_ret (v := .tuple #[.agg #[.slice Ap np cp, .slice Ar nr cr, .int .i64 (ep + 1), .slice A' m' c'], .int .i64 0, .slice none 0 0]) (by rw [results_cell3 Tryd.results22]; simp [go_sem, p2]) rfl ?_
      refine ⟨_, 0, none, 0, 0, ps, ep + 1, _, [], rfl, (fun w'' m => ⟨F.out.2.1 w'' m, (ts_nil _).1⟩), slok_nil, ?_, F.out.1.b⟩
      unfold doesP appR; rw [hk, F.out.2.2, ref8L_eq F.out.2.2]; simp
    · obtain ⟨E, hEE⟩ : ∃ E, appE ep ms op.chg = E := ⟨_, rfl⟩
      rw [hEE]
      have hE0 : (E == 0) = false := by rw [beq_eq_false_iff_ne, ← hEE]; exact hE
      obtain ⟨w6, hw6⟩ : ∃ w6, w5.alloc (.cells #[.int .i64 ep', .slice A' m' c'] 26) = w6 := ⟨_, rfl⟩
      have hb6 : Below w5.heap.size w5 w6 := by rw [← hw6]; exact (Below.refl _ _).alloc (Nat.le_refl _) _
      have D6 := D5.below hb6
      obtain ⟨p1, p2, D7⟩ := D6.put (R' := #[.slice Ap np cp, .slice Ar nr cr, .int .i64 ep, .slice Am nm cm]) rfl rfl (st_ones _ _ _ _ _ _ _ _ _ _)
      obtain ⟨rs0, ⟨c0, c2, c3⟩, ⟨o0, o1, o2, o3⟩, oc, f0, f2, f3⟩ := D6.facts H.out.2.2.1
      rw [hk] at o0
      have F := Lib.hid (And.intro D7 (And.intro hEE hE))
      clear D5 D6 D7 hb5 hb6 hown hokL hml hL hE hEE
      go_wp2_with fail
      refine bodyPost_ret (v := .tuple #[.agg #[.slice Ap np cp, .slice Ar nr cr, .int .i64 ep, .slice Am nm cm], .int .i64 E, .slice none 0 0]) (by rw [results_cell3 Tryd.results22]; simp [go_sem, p2]) rfl ?_
      refine ⟨_, E, none, 0, 0, ps, ep, ms, [], rfl, (fun w'' m => ⟨HB.out w'' (nb_old F.out.1.b m), (ts_nil _).1⟩), slok_nil, ?_, F.out.1.b⟩
      unfold doesP; rw [hk, if_neg (by decide), if_neg (by decide), if_neg (by decide), if_neg (by decide), if_neg (by decide), if_neg (by decide), if_neg F.out.2.2, F.out.2.1]
theorem rdoes_any (v : Value) (ps : List Pr) (rs : List Rp) (ep : Int) (ms : List Mb) (op : Opn) (N : Nat → Prop) (w : World) (h : ∀ w'', Mv N w w'' → StS w'' v ps rs ep ms) (hs : SrtP ps) (ho : op.ok) (hk1 : 1 ≤ op.kind) (hk2 : op.kind ≤ 7) (hn : ps.length ≤ 10000) (hmm : ms.length ≤ 90000 ∧ (Lit.int .i64 ep).wf = true ∧ Pow w) : Calls Tryd.prog 22 #[v, .agg op.arr] w (DoesQ N ps rs ep ms op w) := by
  have hk : op.kind = 1 ∨ op.kind = 2 ∨ op.kind = 3 ∨ op.kind = 4 ∨ op.kind = 5 ∨ op.kind = 6 ∨ op.kind = 7 := by omega
  rcases hk with k | k | k | k | k | k | k
  · cases hb : pairB ps op.key with
    | true => exact rdoes_1 v ps rs ep ms op N w h hs ho k hb
    | false => exact rdoes_none v ps rs ep ms op 1 N w h hs ho k (.inl rfl) hb
  · exact rdoes_2 v ps rs ep ms op N w h hs ho k hn
  · cases hb : pairB ps op.key with
    | true => exact rdoes_3 v ps rs ep ms op N w h hs ho k hb hn
    | false => exact rdoes_none v ps rs ep ms op 3 N w h hs ho k (.inr (.inl rfl)) hb
  · cases hb : pairB ps op.key with
    | true => exact rdoes_4 v ps rs ep ms op N w h hs ho k hb hn
    | false => exact rdoes_none v ps rs ep ms op 4 N w h hs ho k (.inr (.inr rfl)) hb
  · exact rdoes_5 v ps rs ep ms op N w h hs ho k hn
  · exact rdoes_6 v ps rs ep ms op N w h hs ho k hmm
  · exact rdoes_7 v ps rs ep ms op N w h hs ho k
end Go.Proofs.YtfnfgnhbnffagaaDoor
