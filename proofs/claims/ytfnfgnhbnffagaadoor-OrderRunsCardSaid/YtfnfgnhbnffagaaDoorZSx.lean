/-
The search for an order.
-/
import Derived.Test.YtfnfgnhbnffagaaDoorZSe
namespace Go.Proofs.YtfnfgnhbnffagaaDoor
open Go.RowKit
set_option linter.unusedVariables false
set_option linter.unusedSimpArgs false
set_option maxRecDepth 100000
/-- one event is put first -/
def stepP (rec : Reg → List Ev → Bool) (s : Reg) (es : List Ev) (i : Nat) : Bool :=
  !(es.any fun o => aheadE o (es.getD i default)) && (decide ((es.getD i default).done < 0) || sameR (applyP s (es.getD i default).q).2 (es.getD i default).r.d) && rec (applyP s (es.getD i default).q).1 (es.eraseIdx i)
/-- may they come in some order? -/
def searchP : Nat → Reg → List Ev → Bool
  | 0, s, es => !(es.any fun m => decide (0 ≤ m.done))
  | d + 1, s, es => !(es.any fun m => decide (0 ≤ m.done)) || (List.range es.length).any fun i => stepP (searchP d) s es i
/-- an event that can be read -/
structure EvS (w : World) (m : Ev) : Prop where
  r : RpS w m.r
  f : m.q.few
theorem EvS.below {w w' : World} {m : Ev} (h : EvS w m) (hb : Below w.heap.size w w') : EvS w' m := ⟨h.r.below hb, h.f⟩
/-- what Apply answers, laid open -/
def SApplyO (s : Reg) (q : Rq) (w : World) (e : Ending) (w' : World) : Prop :=
  ∃ A1 n1 c1 A2 n2 c2 ep' A3 n3 c3 x1 x2 x3 A4 n4 c4, e = .returned (.tuple #[.agg #[.slice A1 n1 c1, .slice A2 n2 c2, .int .i64 ep', .slice A3 n3 c3], .agg #[.int .i64 x1, .int .i64 x2, .int .i64 x3, .slice A4 n4 c4]]) ∧
    ∃ ps' rs' ms' out, OwnV w.heap.size w' (.agg #[.slice A1 n1 c1, .slice A2 n2 c2, .int .i64 ep', .slice A3 n3 c3]) ps' rs' ep' ms' ∧ (Reg.mk ps' (rs'.map Rp.d) ep' ms', (x1, x2, x3, out)) = applyP s q ∧ OT w' w.heap.size (.slice A4 n4 c4) out ∧ out.length = n4 ∧ Below w.heap.size w w'
theorem SApply.open {s : Reg} {q : Rq} {w w' : World} {e : Ending} (h : SApply s q w e w') : SApplyO s q w e w' := by
  obtain ⟨v', vals, ps', rs', ep', ms', ⟨x1, x2, x3, out⟩, rfl, h1, h2, h3, h4⟩ := h
  obtain ⟨O, vp, vr, vm, rfl, o1, l1, l2, l3⟩ := h1
  obtain ⟨A1, c1, rfl, -, -⟩ := own_shape o1.p
  obtain ⟨A2, c2, rfl, -, -⟩ := own_shape o1.r
  obtain ⟨A3, c3, rfl, -, -⟩ := own_shape o1.m
  obtain ⟨A4, c4, rfl⟩ := ot_shape h3 rfl
  exact ⟨A1, _, c1, A2, _, c2, ep', A3, _, c3, x1, x2, x3, A4, _, c4, rfl, ps', rs', ms', out, ⟨O, _, _, _, rfl, o1, l1, l2, l3⟩, h2, h3, rfl, h4⟩
/-- a search's contract, for events that are at most so many -/
def SearchC (d : Nat) : Prop := ∀ (v : Value) (ps : List Pr) (rs : List Rp) (ep : Int) (ms : List Mb) (A : Option Addr) (n cap k : Nat) (es : List Ev) (w : World), StS w v ps rs ep ms → Fits k ⟨ps, rs.map Rp.d, ep, ms⟩ → Pow w → ES w A n es → SlOk A n → (∀ m ∈ es, EvS w m) → n ≤ d → k + d ≤ 1000 →
  Calls Tryd.prog 20 #[v, .slice A n cap] w fun e w' => e = .returned (.bool (searchP d ⟨ps, rs.map Rp.d, ep, ms⟩ es)) ∧ Below w.heap.size w w'
theorem cutQ0 {m : Ev} {w : World} {g : Nat} (hm : m.ok) (hg : w.heap[g]? = some (.cells m.arr 51 (0, 0))) : rowAt w g 0 42 = some m.q.arr ∧ rowAt w g 42 4 = some m.r.arr ∧ rowAt w g 0 48 = some m.arr ∧ w.cell? ⟨g, 47, none⟩ = some (.int .i64 m.done) :=
  ⟨by unfold rowAt; rw [hg]; exact Ev.cutQ hm, by unfold rowAt; rw [hg]; exact Ev.cutR hm, by unfold rowAt; rw [hg]; exact Ev.cut hm, by rw [cell_of_row hg (Ev.at47 hm)]⟩
set_option maxHeartbeats 4000000 in
theorem search_step (d : Nat) (ih : ∀ d', d = d' + 1 → SearchC d') : SearchC d := by
  intro v ps rs ep ms A n cap k es w h hf hpw hes hsl hev hnd hkd
  have hlen := hes.len
  have hsm := hes.small
  have hni : (n : Int) ≤ 140737488355328 := by omega
  obtain ⟨Ap, cp, Ar, cr, Am, cm, hv, -⟩ := h.ex
  obtain ⟨np, hnp⟩ : ∃ n, ps.length = n := ⟨_, rfl⟩
  obtain ⟨nr, hnr⟩ : ∃ n, rs.length = n := ⟨_, rfl⟩
  obtain ⟨nm, hnm⟩ : ∃ n, ms.length = n := ⟨_, rfl⟩
  rw [hnp, hnr, hnm] at hv
  subst hv
  obtain ⟨w1, hw1⟩ : ∃ w1, w.alloc (.cells #[.slice Ap np cp, .slice Ar nr cr, .int .i64 ep, .slice Am nm cm] 28) = w1 := ⟨_, rfl⟩
  have hb1 : Below w.heap.size w w1 := by rw [← hw1]; exact (Below.refl _ _).alloc (Nat.le_refl _) _
  have hz1 : w1.heap.size = w.heap.size + 1 := by rw [← hw1]; simp
  have hg1 : w1.heap[w.heap.size]? = some (.cells #[.slice Ap np cp, .slice Ar nr cr, .int .i64 ep, .slice Am nm cm] 28 (0, 0)) := by rw [← hw1]; exact heap_alloc_new w _
  have E := Lib.hid (And.intro h (And.intro hf (And.intro hpw (And.intro hes (And.intro hsl (And.intro hev (And.intro hnd (And.intro hkd (And.intro hlen (And.intro hb1 (And.intro hz1 hg1)))))))))))
  have IH := Lib.hid ih
  generalize hR : searchP d ⟨ps, rs.map Rp.d, ep, ms⟩ es = R
  have HR := Lib.hid hR
  clear h hf hpw hes hsl hev hnd hkd hlen hsm hb1 hz1 hg1 hnp hnr hnm ih hR
  go_enter Tryd.func20, Tryd.ntmps20
  go_wp2_with fail
  refine (contains1_any A n cap es w1 (E.out.2.2.2.1.below E.out.2.2.2.2.2.2.2.2.2.1) (fun m => decide (0 ≤ m.done)) (fun m hm w' hb => (lit1_any (E.out.2.2.2.1.ok m hm) w'))).mono ?_
  rintro e w2 ⟨rfl, hb2⟩
  have HB2 := Lib.hid hb2
  clear hb2 hw1
  cases hany : es.any fun m => decide (0 ≤ m.done) with
  | false =>
    have hr : R = true := by
      rw [← HR.out]
      cases d with
      | zero => unfold searchP; rw [hany]; rfl
      | succ d => unfold searchP; rw [hany]; rfl
    subst hr
    go_wp2_with fail
    go_ret
    exact ⟨rfl, E.out.2.2.2.2.2.2.2.2.2.1.trans (HB2.out.mono E.out.2.2.2.2.2.2.2.2.2.1.size)⟩
  | true =>
    obtain ⟨d', rfl⟩ : ∃ d', d = d' + 1 := by
      cases d with
      | succ d => exact ⟨d, rfl⟩
      | zero =>
        have hn0 := E.out.2.2.2.2.2.2.1
        have hl := E.out.2.2.2.2.2.2.2.2.1
        have : es = [] := List.eq_nil_of_length_eq_zero (by omega)
        rw [this] at hany
        cases hany
    have hr : (List.range n).any (stepP (searchP d') ⟨ps, rs.map Rp.d, ep, ms⟩ es) = R := by
      rw [← HR.out]
      unfold searchP
      rw [hany, E.out.2.2.2.2.2.2.2.2.1]
      rfl
    have HR2 := Lib.hid hr
    have HI := Lib.hid (IH.out d' rfl)
    clear hr HR IH hany
    go_wp2_with fail
    go_loopw [5, 6, 7, 8, 9, 15] (fun t5 t6 t7 t8 t9 t15 wr => ∃ j : Nat, j ≤ n ∧ t15 = .int .i64 j ∧ (∀ i, i < j → stepP (searchP d') ⟨ps, rs.map Rp.d, ep, ms⟩ es i = false) ∧ Below w1.heap.size w1 wr) (fun _ _ _ _ _ t15 _ => n - (intOf t15).toNat)
    case atStart => exact ⟨0, by omega, rfl, fun i hi => by omega, HB2.out⟩
    case round =>
      obtain ⟨j, hj, rfl, hno, hb⟩ := hrel
      have hj0 : (0 : Int) ≤ j := by omega
      by_cases hlt : j < n
      · have hj1 : (j : Int) < n := by omega
        have hbw := E.out.2.2.2.2.2.2.2.2.2.1.trans (hb.mono E.out.2.2.2.2.2.2.2.2.2.1.size)
        obtain ⟨b, off, rfl, hbb, hrow⟩ := E.out.2.2.2.1.mem (by omega)
        have hr := (rowAt_below hbw hbb _ _).trans (hrow j hlt)
        have hok := E.out.2.2.2.1.okAt hlt
        have hin : es.getD j default ∈ es := by
          rw [List.getD_eq_getElem?_getD, List.getElem?_eq_getElem (by rw [E.out.2.2.2.2.2.2.2.2.1]; exact hlt)]
          exact List.getElem_mem _
        have hst : stepP (searchP d') ⟨ps, rs.map Rp.d, ep, ms⟩ es j = (!(es.any fun o => aheadE o (es.getD j default)) && (decide ((es.getD j default).done < 0) || sameR (applyP ⟨ps, rs.map Rp.d, ep, ms⟩ (es.getD j default).q).2 (es.getD j default).r.d) && searchP d' (applyP ⟨ps, rs.map Rp.d, ep, ms⟩ (es.getD j default).q).1 (es.eraseIdx j)) := rfl
        generalize es.getD j default = m at hr hok hin hst
        have hs := Ev.sz hok
        have ho := Ev.ones m
        obtain ⟨w2, hw2⟩ : ∃ w2, wr.alloc (.cells m.arr 51) = w2 := ⟨_, rfl⟩
        have hz2 : w2.heap.size = wr.heap.size + 1 := by rw [← hw2]; simp
        have hb2 : Below wr.heap.size wr w2 := by rw [← hw2]; exact (Below.refl _ _).alloc (Nat.le_refl _) _
        have hg2 : w2.heap[wr.heap.size]? = some (.cells m.arr 51 (0, 0)) := by rw [← hw2]; exact heap_alloc_new wr _
        have E1 := Lib.hid (And.intro hno (And.intro (hb.trans (hb2.mono hb.size)) (And.intro (hbw.trans (hb2.mono hbw.size)) (And.intro hok (And.intro hin (And.intro hst (And.intro hz2 (And.intro hg2 hb2))))))))
        clear hno hb hbw hrow hok hin hst hz2 hb2 hg2
        go_wp2_with fail
        refine (contains2_any (some ⟨b, off, none⟩) n cap es wr.heap.size w2 (E.out.2.2.2.1.below E1.out.2.2.1) (fun o => aheadE o m) (fun o ho w' hb => lit2_any wr.heap.size (E.out.2.2.2.1.ok o ho) E1.out.2.2.2.1 w' ((hb.block _ (by have := E1.out.2.2.2.2.2.2.1; omega)).trans E1.out.2.2.2.2.2.2.2.1))).mono ?_
        rintro e w3 ⟨rfl, hb3⟩
        clear hw2
        cases hah : es.any fun o => aheadE o m with
        | true =>
          have E2 := Lib.hid (And.intro hb3 hah)
          clear hb3 hah
          go_wp2_with fail
          go_roundw
          case rel =>
            refine ⟨j + 1, by omega, by go_num, fun i hi => ?_, E1.out.2.1.trans (E2.out.1.mono E1.out.2.1.size)⟩
            rcases Nat.lt_or_ge i j with c | c
            · exact E1.out.1 i c
            · obtain rfl : i = j := by omega
              rw [E1.out.2.2.2.2.2.1, E2.out.2]
              rfl
          case measure => simp [intOf]; omega
        | false =>
          have hB13 := E1.out.2.1.trans (hb3.mono E1.out.2.1.size)
          have hB3 := E1.out.2.2.1.trans (hb3.mono E1.out.2.2.1.size)
          have hsz1 := E.out.2.2.2.2.2.2.2.2.2.2.1
          have hg13 := (hB13.block _ (by omega)).trans E.out.2.2.2.2.2.2.2.2.2.2.2
          have r13 : rowAt w3 w.heap.size 0 4 = some #[.slice Ap np cp, .slice Ar nr cr, .int .i64 ep, .slice Am nm cm] := by unfold rowAt; rw [hg13]; exact cut_all _ _ rfl
          have hge := (hb3.block _ (by have := E1.out.2.2.2.2.2.2.1; omega)).trans E1.out.2.2.2.2.2.2.2.1
          obtain ⟨q3, -, -, -⟩ := cutQ0 E1.out.2.2.2.1 hge
          have hst : stepP (searchP d') ⟨ps, rs.map Rp.d, ep, ms⟩ es j = ((decide (m.done < 0) || sameR (applyP ⟨ps, rs.map Rp.d, ep, ms⟩ m.q).2 m.r.d) && searchP d' (applyP ⟨ps, rs.map Rp.d, ep, ms⟩ m.q).1 (es.eraseIdx j)) := by
            rw [E1.out.2.2.2.2.2.1, hah]; rfl
          have E3 := Lib.hid (And.intro hB13 (And.intro hB3 (And.intro hge hst)))
          have hges : wr.heap.size < w3.heap.size := (Array.getElem?_eq_some_iff.1 hge).1
          clear hb3 hah hB13 hB3 hg13 hge hst hsz1
          go_wp2_with fail
          refine (sapply_fit (k := k) _ ps rs ep ms m.q w3 (E.out.1.below E3.out.2.1) E.out.2.1 (by have := E.out.2.2.2.2.2.2.2.1; omega) (E.out.2.2.2.2.2.1 m E1.out.2.2.2.2.1).f (E.out.2.2.1.below E3.out.2.1)).mono ?_
          intro e w4 h4
          obtain ⟨A1, n1, c1, A2, n2, c2, ep', A3, n3, c3, x1, x2, x3, A4, n4, c4, rfl, ps', rs', ms', out, ov, hap, ot, hol, hb4⟩ := h4.open
          obtain ⟨w5, hw5⟩ : ∃ w5, (w4.alloc (.cells #[.slice A1 n1 c1, .slice A2 n2 c2, .int .i64 ep', .slice A3 n3 c3] 28)).alloc (.cells #[.int .i64 x1, .int .i64 x2, .int .i64 x3, .slice A4 n4 c4] 49) = w5 := ⟨_, rfl⟩
          have hb5 : Below w4.heap.size w4 w5 := by rw [← hw5]; exact ((Below.refl _ _).alloc (Nat.le_refl _) _).alloc (by simp) _
          have hz5 : w5.heap.size = w4.heap.size + 2 := by rw [← hw5]; simp
          have hg5 : w5.heap[w4.heap.size]? = some (.cells #[.slice A1 n1 c1, .slice A2 n2 c2, .int .i64 ep', .slice A3 n3 c3] 28 (0, 0)) := by rw [← hw5]; exact (Below.heap_alloc _ _ _ (by simp)).trans (heap_alloc_new w4 _)
          have hg5b : w5.heap[w4.heap.size + 1]? = some (.cells #[.int .i64 x1, .int .i64 x2, .int .i64 x3, .slice A4 n4 c4] 49 (0, 0)) := by
            rw [← hw5]; have := heap_alloc_new (w4.alloc (.cells #[.slice A1 n1 c1, .slice A2 n2 c2, .int .i64 ep', .slice A3 n3 c3] 28)) (.cells #[.int .i64 x1, .int .i64 x2, .int .i64 x3, .slice A4 n4 c4] 49); simpa using this
          have E5 := Lib.hid (And.intro ov (And.intro hap (And.intro ot (And.intro hol (And.intro hb4 (And.intro hb5 (And.intro hz5 (And.intro hg5 hg5b))))))))
          clear h4 ov hap ot hol hb4 hb5 hz5 hg5 hg5b r13 q3
          go_wp2_with fail
          clear hw5
          have hB35 : Below w3.heap.size w3 w5 := E5.out.2.2.2.2.1.trans (E5.out.2.2.2.2.2.1.mono E5.out.2.2.2.2.1.size)
          have hB5 : Below w.heap.size w w5 := E3.out.2.1.trans (hB35.mono E3.out.2.1.size)
          have hn1000 : n ≤ 1000 := by have := E.out.2.2.2.2.2.2.1; have := E.out.2.2.2.2.2.2.2.1; omega
          have hes5 := E.out.2.2.2.1.below hB5
          have hokE : OkAllE es := E.out.2.2.2.1.ok
          refine (clone_anyE (some ⟨b, off, none⟩) n cap es w5 hes5 (by omega) (fun h => by cases h) (fun a h => by cases h; rfl)).mono ?_
          rintro e w6 ⟨v6, rfl, own6, hb6⟩
          obtain ⟨A6, c6, hv6, -, -⟩ := own_shape own6
          subst hv6
          have HB5 := Lib.hid (And.intro hB35 (And.intro hB5 (And.intro hn1000 (And.intro hokE (And.intro own6 hb6)))))
          clear hB35 hB5 hes5 hokE own6 hb6 hn1000
          go_wp2_with fail
          refine (delete_anyE (i := j) HB5.out.2.2.2.2.1 HB5.out.2.2.2.1 (by have := HB5.out.2.2.1; omega) hlt).mono ?_
          rintro e w7 ⟨v7, rfl, own7, hvb7, gr7⟩
          have hb57 : Below w5.heap.size w5 w7 := HB5.out.2.2.2.2.2.grown gr7 HB5.out.2.2.2.2.2.size (fun k hk => (own_lt HB5.out.2.2.2.2.1 hk).1)
          have hokD : OkAllE (es.eraseIdx j) := fun x hx => HB5.out.2.2.2.1 x (List.mem_of_mem_eraseIdx hx)
          obtain ⟨A7, c7, hv7, hes7⟩ := ES_of_own own7 hokD (by have := HB5.out.2.2.1; omega)
          obtain ⟨A7', c7', hv7', hsl7, -⟩ := own_shape own7
          rw [hv7] at hv7'
          cases hv7'
          subst hv7
          have hB37 := HB5.out.1.trans (hb57.mono HB5.out.1.size)
          have hB7 := HB5.out.2.1.trans (hb57.mono HB5.out.2.1.size)
          have hg7 := (hb57.block _ (by have := E5.out.2.2.2.2.2.2.1; omega)).trans E5.out.2.2.2.2.2.2.2.1
          have hg7b := (hb57.block _ (by have := E5.out.2.2.2.2.2.2.1; omega)).trans E5.out.2.2.2.2.2.2.2.2
          have hge7 := (hB37.block _ hges).trans E3.out.2.2.1
          obtain ⟨-, r42, -, k47⟩ := cutQ0 E1.out.2.2.2.1 hge7
          have r70 : rowAt w7 w4.heap.size 0 4 = some #[.slice A1 n1 c1, .slice A2 n2 c2, .int .i64 ep', .slice A3 n3 c3] := by unfold rowAt; rw [hg7]; exact cut_all _ _ rfl
          have r71 : rowAt w7 (w4.heap.size + 1) 0 4 = some #[.int .i64 x1, .int .i64 x2, .int .i64 x3, .slice A4 n4 c4] := by unfold rowAt; rw [hg7b]; exact cut_all _ _ rfl
          have hb47 : Below w4.heap.size w4 w7 := E5.out.2.2.2.2.2.1.trans (hb57.mono E5.out.2.2.2.2.2.1.size)
          have hsts := E5.out.1.sts.below hb47
          have hfit := applyP_fit E.out.2.1 (E.out.2.2.2.2.2.1 m E1.out.2.2.2.2.1).f
          rw [← E5.out.2.1] at hfit
          have hot : OT w7 w3.heap.size (.slice A4 n4 c4) out := E5.out.2.2.1.below hb47
          obtain ⟨A4', c4', hv4, hts4, hsl4⟩ := hot.ts (Nat.le_trans hfit.2.1 (by omega))
          rw [E5.out.2.2.2.1] at hv4
          cases hv4
          have hrp : RpS w7 ⟨x1, x2, x3, A4, c4, out⟩ := ⟨hts4, hsl4, hfit.2⟩
          have hem := (E.out.2.2.2.2.2.1 m E1.out.2.2.2.2.1).below hB7
          have hst := E3.out.2.2.2
          rw [← E5.out.2.1] at hst
          have hsame : ∀ w', Below w7.heap.size w7 w' → Calls Tryd.prog 19 #[.agg #[.int .i64 x1, .int .i64 x2, .int .i64 x3, .slice A4 n4 c4], .agg m.r.arr] w' fun e w'' => e = .returned (.bool (sameR (x1, x2, x3, out) m.r.d)) ∧ Below w'.heap.size w' w'' := fun w' hb => by
            have h := same_any ⟨x1, x2, x3, A4, c4, out⟩ m.r w' (hrp.below hb) (hem.r.below hb)
            rw [show Rp.arr ⟨x1, x2, x3, A4, c4, out⟩ = #[.int .i64 x1, .int .i64 x2, .int .i64 x3, .slice A4 n4 c4] by rw [← E5.out.2.2.2.1]; rfl] at h
            exact h
          have hrec : ∀ w', Below w7.heap.size w7 w' → Calls Tryd.prog 20 #[.agg #[.slice A1 n1 c1, .slice A2 n2 c2, .int .i64 ep', .slice A3 n3 c3], .slice A7 (n - 1) c7] w' fun e w'' => e = .returned (.bool (searchP d' ⟨ps', rs'.map Rp.d, ep', ms'⟩ (es.eraseIdx j))) ∧ Below w'.heap.size w' w'' := fun w' hb =>
            HI.out _ ps' rs' ep' ms' A7 (n - 1) c7 (k + 1) (es.eraseIdx j) w' (hsts.below hb) hfit.1 (E.out.2.2.1.below (hB7.trans (hb.mono hB7.size))) (hes7.below hb) hsl7 (fun x hx => ((E.out.2.2.2.2.2.1 x (List.mem_of_mem_eraseIdx hx)).below hB7).below hb) (by have := E.out.2.2.2.2.2.2.1; omega) (by have := E.out.2.2.2.2.2.2.2.1; omega)
          have hB17 := E3.out.1.trans (hB37.mono E3.out.1.size)
          have HS := Lib.hid (And.intro hsame (And.intro hrec (And.intro hst hB17)))
          have hw4 := (Array.getElem?_eq_some_iff.1 hg7).1
          clear hsame hrec hst hB17 hB37 hB7 hg7 hg7b hge7 hb47 hsts hfit hot hrp hem hts4 hsl4 hes7 hsl7 own7 gr7 hvb7 hb57 hokD
          by_cases hdn : m.done < 0
          · go_wp2_with fail
            refine (HS.out.2.1 _ (Below.refl _ _)).mono ?_
            rintro e wz ⟨rfl, hbz⟩
            have hB1z := HS.out.2.2.2.trans ((hbz).mono HS.out.2.2.2.size)
            cases hsr : searchP d' ⟨ps', rs'.map Rp.d, ep', ms'⟩ (es.eraseIdx j) with
            | true =>
              have HZ := Lib.hid (And.intro hB1z hsr)
              clear hB1z hbz hsr
              have hRt : R = true := by
                rw [← HR2.out]
                refine List.any_eq_true.2 ⟨j, List.mem_range.2 hlt, ?_⟩
                rw [HS.out.2.2.1, HZ.out.2]
                simp [hdn]
              subst hRt
              go_wp2_with fail
              go_ret
              exact ⟨rfl, E.out.2.2.2.2.2.2.2.2.2.1.trans (HZ.out.1.mono E.out.2.2.2.2.2.2.2.2.2.1.size)⟩
            | false =>
              have HZ := Lib.hid (And.intro hB1z hsr)
              clear hB1z hbz hsr
              go_wp2_with fail
              go_roundw
              case rel =>
                refine ⟨j + 1, by omega, by go_num, fun i hi => ?_, HZ.out.1⟩
                rcases Nat.lt_or_ge i j with c | c
                · exact E1.out.1 i c
                · obtain rfl : i = j := by omega
                  rw [HS.out.2.2.1, HZ.out.2, Bool.and_false]
              case measure => simp [intOf]; omega
          · have hdn' : (0 : Int) ≤ m.done := by omega
            go_wp2_with fail
            refine (HS.out.1 _ (Below.refl _ _)).mono ?_
            rintro e w8 ⟨rfl, hb8⟩
            have r80 := (rowAt_below hb8 hw4 0 4).trans r70
            have HB8 := Lib.hid hb8
            clear hb8
            cases hsmr : sameR (x1, x2, x3, out) m.r.d with
            | true =>
              have HSM := Lib.hid hsmr
              clear hsmr
              go_wp2_with fail
              refine (HS.out.2.1 _ HB8.out).mono ?_
              rintro e wz ⟨rfl, hbz⟩
              have hB1z := HS.out.2.2.2.trans ((HB8.out.trans (hbz.mono HB8.out.size)).mono HS.out.2.2.2.size)
              cases hsr : searchP d' ⟨ps', rs'.map Rp.d, ep', ms'⟩ (es.eraseIdx j) with
              | true =>
                have HZ := Lib.hid (And.intro hB1z hsr)
                clear hB1z hbz hsr
                have hRt : R = true := by
                  rw [← HR2.out]
                  refine List.any_eq_true.2 ⟨j, List.mem_range.2 hlt, ?_⟩
                  rw [HS.out.2.2.1, HZ.out.2]
                  simp [HSM.out]
                subst hRt
                go_wp2_with fail
                go_ret
                exact ⟨rfl, E.out.2.2.2.2.2.2.2.2.2.1.trans (HZ.out.1.mono E.out.2.2.2.2.2.2.2.2.2.1.size)⟩
              | false =>
                have HZ := Lib.hid (And.intro hB1z hsr)
                clear hB1z hbz hsr
                go_wp2_with fail
                go_roundw
                case rel =>
                  refine ⟨j + 1, by omega, by go_num, fun i hi => ?_, HZ.out.1⟩
                  rcases Nat.lt_or_ge i j with c | c
                  · exact E1.out.1 i c
                  · obtain rfl : i = j := by omega
                    rw [HS.out.2.2.1, HZ.out.2, Bool.and_false]
                case measure => simp [intOf]; omega
            | false =>
              have HSM := Lib.hid hsmr
              clear hsmr
              go_wp2_with fail
              go_roundw
              case rel =>
                refine ⟨j + 1, by omega, by go_num, fun i hi => ?_, HS.out.2.2.2.trans (HB8.out.mono HS.out.2.2.2.size)⟩
                rcases Nat.lt_or_ge i j with c | c
                · exact E1.out.1 i c
                · obtain rfl : i = j := by omega
                  rw [HS.out.2.2.1, HSM.out, decide_eq_false (by omega)]
                  rfl
              case measure => simp [intOf]; omega
      · have hjn : j = n := by omega
        have E1 := Lib.hid (And.intro hno hb)
        clear hno hb
        have hRf : R = false := by
          rw [← HR2.out, List.any_eq_false]
          intro i hi
          rw [E1.out.1 i (by rw [hjn]; exact List.mem_range.1 hi)]
          simp
        subst hRf
        go_wp2_with fail
        go_ret
        exact ⟨rfl, E.out.2.2.2.2.2.2.2.2.2.1.trans (E1.out.2.mono E.out.2.2.2.2.2.2.2.2.2.1.size)⟩
theorem search_any : ∀ d, SearchC d
  | 0 => search_step 0 (fun d' h => by omega)
  | d + 1 => search_step (d + 1) (fun d' h => by have e : d' = d := by omega
                                                 rw [e]
                                                 exact search_any d)
end Go.Proofs.YtfnfgnhbnffagaaDoor
