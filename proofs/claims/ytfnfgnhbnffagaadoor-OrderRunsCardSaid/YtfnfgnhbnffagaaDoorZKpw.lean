/-
Rows of requests and of events, appended to none; a request behind the others.
-/
import Derived.Test.YtfnfgnhbnffagaaDoorZAlw
import Derived.Test.YtfnfgnhbnffagaaDoorZInz
import Derived.Deep.RegionHeld3
namespace Go.Proofs.YtfnfgnhbnffagaaDoor
open Go.RowKit
set_option linter.unusedVariables false
set_option linter.unusedSimpArgs false
set_option maxRecDepth 100000
theorem full_E {w : World} {A : Option Addr} {n : Nat} {ms : List Ev} (cap : Nat) (h : ES w A n ms) (ho : SlOk A n) (hn : n ≤ 1000) : ∃ v' w1,
    (apRow #[30, 30] 30 #[.slice (some ⟨w.heap.size, 0, none⟩) 0 0, .slice A n cap]).run Tryd.prog (w.alloc (.cells #[] 51)) = .ok v' w1 ∧
    w1.ownsRow w.heap.size 51 48 v' n (flatC Ev.cells ms) ∧ Below w.heap.size w w1 := by
  obtain ⟨i0, hi, hz0, hz1, hz2⟩ := info_parts infoME
  have hok : OkAllE ms := h.ok
  have hown : (w.alloc (.cells #[] 51)).ownsRow w.heap.size 51 48 (.slice (some ⟨w.heap.size, 0, none⟩) 0 0) 0 [] := World.ownsRow_made w #[] 0 (Nat.le_refl _) (by decide) rfl
  cases A with
  | none =>
    obtain rfl := ho.none rfl
    have hms : ms = [] := List.eq_nil_of_length_eq_zero h.len
    subst hms
    refine ⟨_, _, ?_, hown, (Below.refl _ _).alloc (Nat.le_refl _) _⟩
    simp [apRow, Builtin.append_, run_underlying Tryd.underlying30, sizeOf, typeInfo, hi, Builtin.lenOf, Builtin.firstCells, storeCells]
  | some ad =>
    have hnews : ∀ j u, (flatC Ev.cells ms)[j]? = some u → (w.alloc (.cells #[] 51)).cell? (ad.add j) = some u := by
      intro j u hu
      rcases Nat.eq_zero_or_pos n with h0 | h0
      · have hms : ms = [] := List.eq_nil_of_length_eq_zero (by rw [h.len]; exact h0)
        subst hms
        simp [flatC] at hu
      · obtain ⟨b, off, hA, -⟩ := h.mem h0
        cases hA
        have h1 := h.news rfl 0 (by omega) j u hu
        rw [Nat.zero_mul, Nat.add_zero] at h1
        rw [Addr.add_mid] at h1 ⊢
        rw [World.cell?_alloc_lt _ _ _ (World.block_lt_of_cell? w _ h1)]
        exact h1
    obtain ⟨v', w1, hrun, hown1, hgrow, _, hat⟩ := run_append_own_at (P := Tryd.prog) (w.alloc (.cells #[] 51)) w.heap.size 30 30 51 i0 (.agg Ev.zero.arr) 48 200 Tryd.underlying30 hi hz0 hz1 hz2 (Ev.size Ev.zero_ok) (by decide)
      (.slice (some ⟨w.heap.size, 0, none⟩) 0 0) 0 [] hown ad n cap (flatC Ev.cells ms) (by rw [flatC_length hok.len, h.len]) hnews
      (flatM_onesE ms) (by simp only [maxLen]; omega) (by omega) (by simp)
    exact ⟨v', w1, hrun, by simpa using hown1, ((Below.refl _ _).alloc (Nat.le_refl _) _).grown hgrow (by simp) (fun k hk => by simp [Value.ownBlock] at hk; omega)⟩
theorem full_Q {w : World} {A : Option Addr} {n : Nat} {ms : List Rq} (cap : Nat) (h : QS w A n ms) (ho : SlOk A n) (hn : n ≤ 1000) : ∃ v' w1,
    (apRow #[29, 29] 29 #[.slice (some ⟨w.heap.size, 0, none⟩) 0 0, .slice A n cap]).run Tryd.prog (w.alloc (.cells #[] 46)) = .ok v' w1 ∧
    w1.ownsRow w.heap.size 46 42 v' n (flatC Rq.cells ms) ∧ Below w.heap.size w w1 := by
  obtain ⟨i0, hi, hz0, hz1, hz2⟩ := info_parts infoMQ
  have hok : OkAllQ ms := h.ok
  have hown : (w.alloc (.cells #[] 46)).ownsRow w.heap.size 46 42 (.slice (some ⟨w.heap.size, 0, none⟩) 0 0) 0 [] := World.ownsRow_made w #[] 0 (Nat.le_refl _) (by decide) rfl
  cases A with
  | none =>
    obtain rfl := ho.none rfl
    have hms : ms = [] := List.eq_nil_of_length_eq_zero h.len
    subst hms
    refine ⟨_, _, ?_, hown, (Below.refl _ _).alloc (Nat.le_refl _) _⟩
    simp [apRow, Builtin.append_, run_underlying Tryd.underlying29, sizeOf, typeInfo, hi, Builtin.lenOf, Builtin.firstCells, storeCells]
  | some ad =>
    have hnews : ∀ j u, (flatC Rq.cells ms)[j]? = some u → (w.alloc (.cells #[] 46)).cell? (ad.add j) = some u := by
      intro j u hu
      rcases Nat.eq_zero_or_pos n with h0 | h0
      · have hms : ms = [] := List.eq_nil_of_length_eq_zero (by rw [h.len]; exact h0)
        subst hms
        simp [flatC] at hu
      · obtain ⟨b, off, hA, -⟩ := h.mem h0
        cases hA
        have h1 := h.news rfl 0 (by omega) j u hu
        rw [Nat.zero_mul, Nat.add_zero] at h1
        rw [Addr.add_mid] at h1 ⊢
        rw [World.cell?_alloc_lt _ _ _ (World.block_lt_of_cell? w _ h1)]
        exact h1
    obtain ⟨v', w1, hrun, hown1, hgrow, _, hat⟩ := run_append_own_at (P := Tryd.prog) (w.alloc (.cells #[] 46)) w.heap.size 29 29 46 i0 (.agg (default : Rq).arr) 42 136 Tryd.underlying29 hi hz0 hz1 hz2 (Rq.size Rq.zero_ok) (by decide)
      (.slice (some ⟨w.heap.size, 0, none⟩) 0 0) 0 [] hown ad n cap (flatC Rq.cells ms) (by rw [flatC_length hok.len, h.len]) hnews
      (flatM_onesQ ms) (by simp only [maxLen]; omega) (by omega) (by simp)
    exact ⟨v', w1, hrun, by simpa using hown1, ((Below.refl _ _).alloc (Nat.le_refl _) _).grown hgrow (by simp) (fun k hk => by simp [Value.ownBlock] at hk; omega)⟩
/-- a request is put behind the others -/
theorem rq_push {w : World} {B n : Nat} {v : Value} {qs : List Rq} (ty : TypeId) (h : w.ownsRow B 46 42 v n (flatC Rq.cells qs)) {x : Rq} (hx : x.ok) (hn : n ≤ 100000) (hB : B ≤ w.heap.size) :
    ∃ v' w', (apRow #[29, 29] ty #[v, .slice (some ⟨w.heap.size, 0, none⟩) 1 1]).run Tryd.prog (w.alloc (.cells x.arr 46)) = .ok v' w' ∧ w'.ownsRow B 46 42 v' (n + 1) (flatC Rq.cells (qs ++ [x])) ∧ Below B w w' := by
  obtain ⟨i0, hi, hz0, hz1, hz2⟩ := info_parts infoMQ
  obtain ⟨v', w', h1, h2, h3, -, h5⟩ := run_append_own_at (P := Tryd.prog) (w.alloc (.cells x.arr 46)) B 29 ty 46 i0 (.agg (default : Rq).arr) 42 136 Tryd.underlying29 hi hz0 hz1 hz2 (Rq.size Rq.zero_ok) (by decide) v n (flatC Rq.cells qs) (World.ownsRow.alloc h _) ⟨w.heap.size, 0, none⟩ 1 1 x.cells (by rw [Rq.len hx])
    (fun j u hu => by rw [Addr.add_mid, Nat.zero_add, World.cell?_alloc_at _ _ _ _ rfl]; simpa [Rq.arr] using hu) (cells_onesQ x) (by simp only [maxLen]; omega) (by omega) (by simp; omega)
  refine ⟨v', w', h1, ?_, ((Mv.alloc w _).trans (Mv.of_grown (fp := fun k => v.ownBlock = some k) h3 (fun k hk => hk)) (fun i _ c => c)).below hB (fun k hk => (own_lt h hk).1)⟩
  rw [flatC_append, flatC_one]
  exact h2
end Go.Proofs.YtfnfgnhbnffagaaDoor

/-
More than is played? (registries, logs and events)
-/
namespace Go.Proofs.YtfnfgnhbnffagaaDoor
open Go.RowKit
set_option linter.unusedVariables false
set_option linter.unusedSimpArgs false
set_option maxRecDepth 100000
@[go_sem ↓] theorem ap_Qg (ty : TypeId) (args : Array Value) : Builtin.append_ #[29, 29] ty args = apRow #[29, 29] ty args := rfl
/-- a request of short texts -/
structure Rq.short (q : Rq) : Prop where
  k : q.op.key.size ≤ 2048
  v : q.op.val.size ≤ 2048
  o : q.op.old.size ≤ 2048
/-- what is played -/
structure Fitw (ps : List Pr) (rs : List Rp) (ms : List Mb) (qs : List Rq) (es : List Ev) (most : Nat) : Prop where
  f : Fit ps rs ms 2048
  a : Asc ps rs
  l : qs.length ≤ 20
  e : es.length ≤ most
  v : ∀ i, i < es.length → (es.getD i default).r.vals.length ≤ 40 ∧ ∀ j, j < (es.getD i default).r.vals.length → ((es.getD i default).r.vals.getD j ByteArray.empty).size ≤ 2048
  q : ∀ q ∈ qs ++ es.map Ev.q, q.short
def GreatW (ps : List Pr) (rs : List Rp) (ms : List Mb) (qs : List Rq) (es : List Ev) (most : Nat) (w : World) (e : Ending) (w' : World) : Prop :=
  ∃ b, e = .returned (.bool b) ∧ (b = false → Fitw ps rs ms qs es most) ∧ Below w.heap.size w w'
/-- a reply of an event that came in -/
structure EvT (w : World) (m : Ev) : Prop where
  t : TS w m.r.A m.r.vals.length m.r.vals
  s : SlOk m.r.A m.r.vals.length
  z : ∀ s ∈ m.r.vals, s.size ≤ 140737488355328
theorem EvT.below {w w' : World} {m : Ev} (h : EvT w m) (hb : Below w.heap.size w w') : EvT w' m := ⟨h.t.below hb, h.s, h.z⟩
theorem take_snoc {α : Type} [Inhabited α] {l : List α} {k : Nat} (h : k < l.length) : l.take (k + 1) = l.take k ++ [l.getD k default] := by
  rw [List.take_add_one, List.getElem?_eq_getElem h, List.getD_eq_getElem?_getD, List.getElem?_eq_getElem h]; rfl
set_option maxHeartbeats 4000000 in
theorem great24_any (v : Value) (ps : List Pr) (rs : List Rp) (ep : Int) (ms : List Mb) (A : Option Addr) (n cap : Nat) (qs : List Rq) (A' : Option Addr) (n' cap' : Nat) (es : List Ev) (most : Nat) (w : World) (h : StS w v ps rs ep ms) (hqs : QS w A n qs) (hqo : SlOk A n)
    (hes : ES w A' n' es) (hev : ∀ m ∈ es, EvT w m) (hm : most ≤ 1000) :
    Calls Tryd.prog 7 #[v, .slice A n cap, .slice A' n' cap', .int .i64 most] w (GreatW ps rs ms qs es most w) := by
  obtain ⟨Ap, cp, Ar, cr, Am, cm, hv, -⟩ := h.ex
  obtain ⟨np, hnp⟩ : ∃ n, ps.length = n := ⟨_, rfl⟩
  obtain ⟨nr, hnr⟩ : ∃ n, rs.length = n := ⟨_, rfl⟩
  obtain ⟨nm, hnm⟩ : ∃ n, ms.length = n := ⟨_, rfl⟩
  rw [hnp, hnr, hnm] at hv
  subst hv
  obtain ⟨w1, hw1⟩ : ∃ w1, w.alloc (.cells #[.slice Ap np cp, .slice Ar nr cr, .int .i64 ep, .slice Am nm cm] 28) = w1 := ⟨_, rfl⟩
  have hb1 : Below w.heap.size w w1 := by rw [← hw1]; exact (Below.refl _ _).alloc (Nat.le_refl _) _
  have hg1 : w1.heap[w.heap.size]? = some (.cells #[.slice Ap np cp, .slice Ar nr cr, .int .i64 ep, .slice Am nm cm] 28 (0, 0)) := by rw [← hw1]; exact heap_alloc_new w _
  have r1 : rowAt w1 w.heap.size 0 4 = some #[.slice Ap np cp, .slice Ar nr cr, .int .i64 ep, .slice Am nm cm] := by unfold rowAt; rw [hg1]; exact cut_all _ _ rfl
  have hlt1 : w.heap.size < w1.heap.size := (Array.getElem?_eq_some_iff.1 hg1).1
  have E := Lib.hid (And.intro h (And.intro hqs (And.intro hqo (And.intro hes (And.intro hev (And.intro hm (And.intro hb1 (And.intro hnp (And.intro hnr hnm)))))))))
  clear h hqs hqo hes hev hb1 hg1 hnp hnr hnm
  go_enter Tryd.func7, Tryd.ntmps7
  go_wp2_with fail
  clear hw1
  refine (Great_any _ ps rs ep ms 2048 _ (E.out.1.below E.out.2.2.2.2.2.2.1) (by omega)).mono ?_
  rintro e w2 ⟨b, rfl, hf, hb2⟩
  have hB2 := E.out.2.2.2.2.2.2.1.trans (hb2.mono E.out.2.2.2.2.2.2.1.size)
  cases b with
  | true =>
    have HB := Lib.hid hB2
    clear hf hb2 hB2
    go_wp2_with fail
    go_ret
    exact ⟨true, rfl, (fun h => by cases h), HB.out⟩
  | false =>
    have r2 := (rowAt_below hb2 hlt1 0 4).trans r1
    have HF := Lib.hid (And.intro (hf rfl) hB2)
    clear hf hb2 hB2 r1
    go_wp2_with fail
    refine (Rises_any _ ps rs ep ms _ (E.out.1.below HF.out.2) (HF.out.1.p) (HF.out.1.r)).mono ?_
    rintro e w3 ⟨b3, rfl, ha, hb3⟩
    have hB3 := HF.out.2.trans (hb3.mono HF.out.2.size)
    cases b3 with
    | false =>
      have HB := Lib.hid hB3
      clear ha hb3 hB3 r2
      go_wp2_with fail
      go_ret
      exact ⟨true, rfl, (fun h => by cases h), HB.out⟩
    | true =>
      have HA := Lib.hid (And.intro (ha rfl) hB3)
      clear ha hb3 hB3 r2
      by_cases hl : (20 : Int) < n
      · go_wp2_with fail
        go_ret
        exact ⟨true, rfl, (fun h => by cases h), HA.out.2⟩
      by_cases he : (most : Int) < n'
      · go_wp2_with fail
        go_ret
        exact ⟨true, rfl, (fun h => by cases h), HA.out.2⟩
      have hn20 : (n : Int) ≤ 20 := by omega
      have hnm' : (n' : Int) ≤ most := by omega
      have hmi : (most : Int) ≤ 1000 := by omega
      have hn1000 : (n' : Int) ≤ 1000 := by omega
      have d1 : decide ((20 : Int) < n) = false := decide_eq_false hl
      have d2 : decide ((most : Int) < n') = false := decide_eq_false he
      have d3 : decide (most < n') = false := decide_eq_false (by omega)
      clear hl he
      obtain ⟨v4, w4, hrun4, hown4, hB4⟩ := full_Q cap (E.out.2.1.below HA.out.2) E.out.2.2.1 (by omega : n ≤ 1000)
      obtain ⟨A4, c4, rfl, -, -⟩ := own_shape hown4
      have H4 := Lib.hid (And.intro (own_mono hown4 HA.out.2.size) (HA.out.2.trans (hB4.mono HA.out.2.size)))
      clear hown4 hB4
      go_wp2_with fail
      clear hrun4
      go_loopw [9, 11, 39] (fun t9 t11 t39 wr => ∃ k : Nat, k ≤ n' ∧ t39 = .int .i64 k ∧ ∃ A5 c5, t9 = .slice A5 (n + k) c5 ∧ wr.ownsRow w.heap.size 46 42 (.slice A5 (n + k) c5) (n + k) (flatC Rq.cells (qs ++ (es.map Ev.q).take k)) ∧ Below w.heap.size w wr ∧ (∀ i, i < k → (es.getD i default).r.vals.length ≤ 40 ∧ ∀ j, j < (es.getD i default).r.vals.length → ((es.getD i default).r.vals.getD j ByteArray.empty).size ≤ 2048)) (fun _ _ t _ => n' - (intOf t).toNat)
      case atStart => exact ⟨0, by omega, rfl, A4, c4, rfl, by simpa using H4.out.1, H4.out.2, fun i hi => by omega⟩
      case round =>
        clear H4
        obtain ⟨k, hk, rfl, A5, c5, rfl, hown5, hb5, hel⟩ := hrel
        have hk0 : (0 : Int) ≤ k := by omega
        by_cases hlt : k < n'
        · have hk1 : (k : Int) < n' := by omega
          obtain ⟨b, off, rfl, hbb, hrow⟩ := E.out.2.2.2.1.mem (by omega)
          have hr := (rowAt_below hb5 hbb _ _).trans (hrow k hlt)
          have hok := E.out.2.2.2.1.okAt hlt
          have hin : es.getD k default ∈ es := by
            rw [List.getD_eq_getElem?_getD, List.getElem?_eq_getElem (by rw [E.out.2.2.2.1.len]; exact hlt)]
            exact List.getElem_mem _
          have het := E.out.2.2.2.2.1 _ hin
          have hsn : (es.map Ev.q).take (k + 1) = (es.map Ev.q).take k ++ [(es.getD k default).q] := by
            have hkl : k < es.length := by rw [E.out.2.2.2.1.len]; exact hlt
            rw [← List.map_take, ← List.map_take, take_snoc hkl, List.map_append]; rfl
          generalize hx : es.getD k default = x at hr hok hin het hsn
          have s1 := Ev.sz hok
          have o1 := Ev.ones x
          obtain ⟨w6, hw6⟩ : ∃ w6, wr.alloc (.cells x.arr 51) = w6 := ⟨_, rfl⟩
          have hb6 : Below wr.heap.size wr w6 := by rw [← hw6]; exact (Below.refl _ _).alloc (Nat.le_refl _) _
          have hg6 : w6.heap[wr.heap.size]? = some (.cells x.arr 51 (0, 0)) := by rw [← hw6]; exact heap_alloc_new wr _
          have c45 : w6.cell? ⟨wr.heap.size, 45, none⟩ = some (.slice x.r.A x.r.vals.length x.r.cap) := by rw [cell_of_row hg6 (Ev.att hok 3)]
          have het6 := (het.below (hb5.trans (hb6.mono hb5.size))).t
          obtain ⟨nv, hnv⟩ : ∃ nv, x.r.vals.length = nv := ⟨_, rfl⟩
          obtain ⟨rA, hrA⟩ : ∃ a, x.r.A = a := ⟨_, rfl⟩
          rw [hnv, hrA] at het6
          rw [hnv, hrA] at c45
          have hlt6 : wr.heap.size < w6.heap.size := (Array.getElem?_eq_some_iff.1 hg6).1
          have hr42 : ∀ w', Below w6.heap.size w6 w' → rowAt w' wr.heap.size 0 42 = some x.q.arr := fun w' hb' => by
            unfold rowAt
            rw [hb'.block _ hlt6, hg6]
            exact Ev.cutQ hok
          have E1 := Lib.hid (And.intro hx (And.intro hel (And.intro hok (And.intro hin (And.intro het6 (And.intro hsn (And.intro hown5 (And.intro hb5 (And.intro hb6 (And.intro hr42 hnv))))))))))
          clear hx hel hok hin het het6 hsn hown5 hb5 hb6 hg6 hrow hnv hrA hr42
          by_cases h40 : (40 : Int) < nv
          · go_wp2_with fail
            go_ret
            exact ⟨true, rfl, (fun h => by cases h), E1.out.2.2.2.2.2.2.2.1.trans (E1.out.2.2.2.2.2.2.2.2.1.mono E1.out.2.2.2.2.2.2.2.1.size)⟩
          have hv40 : (nv : Int) ≤ 40 := by omega
          go_wp2_with fail
          clear hw6
          go_loopw [13, 52] (fun t13 t52 wv => ∃ j : Nat, j ≤ nv ∧ t52 = .int .i64 j ∧ Below w6.heap.size w6 wv ∧ (∀ i, i < j → (x.r.vals.getD i ByteArray.empty).size ≤ 2048)) (fun _ t _ => nv - (intOf t).toNat)
          case atStart => exact ⟨0, by omega, rfl, Below.refl _ _, fun i hi => by omega⟩
          case round =>
            obtain ⟨j, hj, rfl, hbv, hvl⟩ := hrel
            have hj0 : (0 : Int) ≤ j := by omega
            by_cases hjl : j < nv
            · have hj1 : (j : Int) < nv := by omega
              obtain ⟨bv, ov, rfl, hbb6, hcv⟩ := E1.out.2.2.2.2.1.mem (by omega)
              have hc := (cell_alike (o := ov + j) (hbv.block _ hbb6)).trans (hcv j hjl)
              have hev2 := Lib.hid (And.intro hbv hvl)
              clear hbv hvl hcv hbb6
              generalize hs : x.r.vals.getD j ByteArray.empty = s at hc
              have hss := E1.out.2.2.1.r.s s (by rw [← hs, List.getD_eq_getElem?_getD, List.getElem?_eq_getElem (by rw [E1.out.2.2.2.2.2.2.2.2.2.2]; exact hjl)]; exact List.getElem_mem _)
              have hs1 : (s.size : Int) ≤ 140737488355328 := by omega
              have HS := Lib.hid hs
              clear hs hss
              by_cases hbig : (2048 : Int) < s.size
              · go_wp2_with fail
                go_ret
                exact ⟨true, rfl, (fun h => by cases h), (E1.out.2.2.2.2.2.2.2.1.trans (E1.out.2.2.2.2.2.2.2.2.1.mono E1.out.2.2.2.2.2.2.2.1.size)).trans (hev2.out.1.mono (Nat.le_trans E1.out.2.2.2.2.2.2.2.1.size E1.out.2.2.2.2.2.2.2.2.1.size))⟩
              · have hsm : (s.size : Int) ≤ 2048 := by omega
                go_wp2_with fail
                go_roundw
                case rel =>
                  refine ⟨j + 1, by omega, by go_num, hev2.out.1, fun i hi => ?_⟩
                  rcases Nat.lt_or_ge i j with c | c
                  · exact hev2.out.2 i c
                  · obtain rfl : i = j := by omega
                    rw [HS.out]; omega
                case measure => simp [intOf]; omega
            · have hjn : j = nv := by omega
              subst hjn
              have hB7 := (E1.out.2.2.2.2.2.2.2.1.trans (E1.out.2.2.2.2.2.2.2.2.1.mono E1.out.2.2.2.2.2.2.2.1.size)).trans (hbv.mono (Nat.le_trans E1.out.2.2.2.2.2.2.2.1.size E1.out.2.2.2.2.2.2.2.2.1.size))
              obtain ⟨v8, w8, hrun8, hown8, hB8⟩ := rq_push 29 (own_mv (fp := fun _ => False) E1.out.2.2.2.2.2.2.1 (Mv.of_below (E1.out.2.2.2.2.2.2.2.2.1.trans (hbv.mono E1.out.2.2.2.2.2.2.2.2.1.size))) (fun _ _ c => c)) E1.out.2.2.1.q (by omega) hB7.size
              obtain ⟨A8, c8, rfl, -, -⟩ := own_shape hown8
              have r42 := E1.out.2.2.2.2.2.2.2.2.2.1 _ hbv
              have hbs := fun w => bs_M1Q E1.out.2.2.1.q w
              have E2 := Lib.hid (And.intro hvl (And.intro hown8 (hB7.trans hB8)))
              clear hvl hown8 hB7 hB8 hbv
              go_wp2_with fail
              go_roundw
              case rel =>
                refine ⟨k + 1, by omega, by go_num, A8, c8, by simp [Nat.add_assoc], ?_, E2.out.2.2, fun i hi => ?_⟩
                · have := E2.out.2.1
                  rw [List.append_assoc, ← E1.out.2.2.2.2.2.1] at this
                  exact this
                · rcases Nat.lt_or_ge i k with c | c
                  · exact E1.out.2.1 i c
                  · obtain rfl : i = k := by omega
                    rw [E1.out.1]
                    exact ⟨by have := E1.out.2.2.2.2.2.2.2.2.2.2; omega, fun j hj => E2.out.1 j (by have := E1.out.2.2.2.2.2.2.2.2.2.2; omega)⟩
              case measure => simp [intOf]; omega
        · have hkn : k = n' := by omega
          obtain ⟨nq, hnq⟩ : ∃ nq, n + k = nq := ⟨_, rfl⟩
          have hQ : QS wr A5 nq (qs ++ es.map Ev.q) := by
            have e1 : (es.map Ev.q).take k = es.map Ev.q := List.take_of_length_le (by rw [List.length_map, E.out.2.2.2.1.len]; omega)
            rw [e1, hnq] at hown5
            have hokq : OkAllQ (qs ++ es.map Ev.q) := fun q hq => by
              rcases List.mem_append.1 hq with h1 | h1
              · exact E.out.2.1.ok q h1
              · obtain ⟨m, hm1, rfl⟩ := List.mem_map.1 h1
                exact (E.out.2.2.2.1.ok m hm1).q
            obtain ⟨A9, c9, hv9, M9⟩ := QS_of_own hown5 hokq (by omega)
            cases hv9
            exact M9
          have E3 := Lib.hid (And.intro hel (And.intro hb5 hQ))
          have hnqi : (nq : Int) ≤ 2000 := by omega
          rw [hnq]
          clear hel hb5 hQ hown5
          go_wp2_with fail
          go_loopw [15, 68] (fun t15 t68 wv => ∃ j : Nat, j ≤ nq ∧ t68 = .int .i64 j ∧ Below w.heap.size w wv ∧ Below wr.heap.size wr wv ∧ (∀ i, i < j → ((qs ++ es.map Ev.q).getD i default).short)) (fun _ t _ => nq - (intOf t).toNat)
          case atStart => exact ⟨0, by omega, rfl, E3.out.2.1, Below.refl _ _, fun i hi => by omega⟩
          case round =>
            obtain ⟨j, hj, rfl, hbv, hbr, hvl⟩ := hrel
            have hj0 : (0 : Int) ≤ j := by omega
            by_cases hjl : j < nq
            · have hj1 : (j : Int) < nq := by omega
              obtain ⟨bq, oq, rfl, hbbq, hrowq⟩ := E3.out.2.2.mem (by omega)
              have hrq := (rowAt_below hbr hbbq _ _).trans (hrowq j hjl)
              have hokq := E3.out.2.2.okAt hjl
              have E4 := Lib.hid (And.intro hbv (And.intro hbr hvl))
              clear hbv hbr hvl hrowq hbbq
              generalize hq : (qs ++ es.map Ev.q).getD j default = q at hrq hokq
              have s1 := Rq.sz hokq
              have o1 := Rq.ones q
              have q3 := q.at3
              have q4 := q.at4
              have q5 := q.at5
              have z3 : (q.op.key.size : Int) ≤ 140737488355328 := by have := hokq.op.key; omega
              have z4 : (q.op.val.size : Int) ≤ 140737488355328 := by have := hokq.op.val; omega
              have z5 : (q.op.old.size : Int) ≤ 140737488355328 := by have := hokq.op.old; omega
              have HQ := Lib.hid hq
              clear hq hokq
              by_cases b3 : (2048 : Int) < q.op.key.size
              · go_wp2_with fail
                go_ret
                exact ⟨true, rfl, (fun h => by cases h), E4.out.1.alloc E4.out.1.size _⟩
              by_cases b4 : (2048 : Int) < q.op.val.size
              · go_wp2_with fail
                go_ret
                exact ⟨true, rfl, (fun h => by cases h), E4.out.1.alloc E4.out.1.size _⟩
              by_cases b5 : (2048 : Int) < q.op.old.size
              · go_wp2_with fail
                go_ret
                exact ⟨true, rfl, (fun h => by cases h), E4.out.1.alloc E4.out.1.size _⟩
              have HS := Lib.hid (show q.short from ⟨by omega, by omega, by omega⟩)
              go_wp2_with fail
              go_roundw
              case rel =>
                refine ⟨j + 1, by omega, by go_num, E4.out.1.alloc E4.out.1.size _, E4.out.2.1.alloc E4.out.2.1.size _, fun i hi => ?_⟩
                rcases Nat.lt_or_ge i j with c | c
                · exact E4.out.2.2 i c
                · obtain rfl : i = j := by omega
                  rw [HQ.out]; exact HS.out
              case measure => simp [intOf]; omega
            · have hjn : j = nq := by omega
              have E4 := Lib.hid (And.intro hbv hvl)
              clear hbv hbr hvl
              go_wp2_with fail
              go_ret
              refine ⟨false, rfl, fun _ => ⟨HF.out.1, HA.out.1, by have := E.out.2.1.len; omega, by have := E.out.2.2.2.1.len; omega, fun i hi => E3.out.1 i (by have := E.out.2.2.2.1.len; omega), fun q hq => ?_⟩, E4.out.1⟩
              obtain ⟨i, hi, rfl⟩ := List.mem_iff_getElem.1 hq
              have := E4.out.2 i (by have := E3.out.2.2.len; omega)
              rw [List.getD_eq_getElem?_getD, List.getElem?_eq_getElem hi] at this
              exact this
end Go.Proofs.YtfnfgnhbnffagaaDoor

/-
A reply is the same as itself (the document's answer); a request, too.
-/
namespace Go.Proofs.YtfnfgnhbnffagaaDoor
open Go.RowKit
set_option linter.unusedVariables false
set_option linter.unusedSimpArgs false
set_option maxRecDepth 100000
set_option maxHeartbeats 4000000 in
theorem texts09_self (A : Option Addr) (n c1 c2 : Nat) (ss : List ByteArray) (w : World) (h : TS w A n ss) : Calls Tryd.prog 21 #[.slice A n c1, .slice A n c2] w fun e w' => e = .returned (.bool true) ∧ Below w.heap.size w w' := by
  have hni : (n : Int) ≤ 8796093022208 := by have := h.small; omega
  have H := Lib.hid h
  clear h
  go_enter Tryd.func21, Tryd.ntmps21
  go_wp2_with fail
  go_loopw [5, 13] (fun t5 t13 wr => ∃ k : Nat, k ≤ n ∧ t13 = .int .i64 k ∧ Below w.heap.size w wr) (fun _ t _ => n - (intOf t).toNat)
  case atStart => exact ⟨0, by omega, rfl, Below.refl _ _⟩
  case round =>
    obtain ⟨k, hk, rfl, hb⟩ := hrel
    have hk0 : (0 : Int) ≤ k := by omega
    by_cases hlt : k < n
    · have hk1 : (k : Int) < n := by omega
      obtain ⟨b, off, rfl, hbb, hc⟩ := H.out.mem (by omega)
      have hc1 := (cell_alike (o := off + k) (hb.block _ hbb)).trans (hc k hlt)
      have HB := Lib.hid hb
      have hc2 : wr.drew.cell? ⟨b, off + k, none⟩ = some (.string (ss.getD k ByteArray.empty)) := hc1
      generalize ss.getD k ByteArray.empty = s at hc1 hc2
      clear hc hbb hb
      go_wp2_with fail
      go_region
      go_wp2_with fail
      go_roundw
      case rel => exact ⟨k + 1, by omega, by go_num, HB.out.drew⟩
      case measure => simp [intOf]; omega
    · have hkn : k = n := by omega
      go_wp2_with fail
      go_ret
      exact ⟨rfl, hb⟩
theorem same09_self (x : Rp) (w : World) (h : TS w x.A x.vals.length x.vals) : Calls Tryd.prog 10 #[.agg x.arr, .agg x.arr] w fun e w' => e = .returned (.bool true) ∧ Below w.heap.size w w' := by
  obtain ⟨xc, xn, xe, xA, xq, vals⟩ := x
  obtain ⟨n, hn⟩ : ∃ n, vals.length = n := ⟨_, rfl⟩
  show Calls Tryd.prog 10 #[.agg #[.int .i64 xc, .int .i64 xn, .int .i64 xe, .slice xA vals.length xq], .agg #[.int .i64 xc, .int .i64 xn, .int .i64 xe, .slice xA vals.length xq]] w fun e w' => e = .returned (.bool true) ∧ Below w.heap.size w w'
  have h' : TS w xA n vals := by rw [← hn]; exact h
  rw [hn]
  have hb : Below w.heap.size w ((w.alloc (.cells #[.int .i64 xc, .int .i64 xn, .int .i64 xe, .slice xA n xq] 49)).alloc (.cells #[.int .i64 xc, .int .i64 xn, .int .i64 xe, .slice xA n xq] 49)) := ((Below.refl _ _).alloc (Nat.le_refl _) _).alloc (by simp) _
  have H := Lib.hid (And.intro (h'.below hb) hb)
  clear h h' hb hn
  go_enter Tryd.func10, Tryd.ntmps10
  go_wp2_with fail
  refine (texts09_self xA n xq xq vals _ H.out.1).mono ?_
  rintro e w' ⟨rfl, hb⟩
  have HB := Lib.hid (H.out.2.trans (hb.mono H.out.2.size))
  clear hb
  go_wp2_with fail
  go_ret
  exact ⟨rfl, HB.out⟩
end Go.Proofs.YtfnfgnhbnffagaaDoor

/-
OrderKeeps: what is handed in stays (the walk).
-/
namespace Go.Proofs.YtfnfgnhbnffagaaDoor
open Go.RowKit
set_option linter.unusedVariables false
set_option linter.unusedSimpArgs false
set_option maxRecDepth 100000
@[go_sem ↓] theorem ap_Qk (ty : TypeId) (args : Array Value) : Builtin.append_ #[29, 29] ty args = apRow #[29, 29] ty args := rfl
@[go_sem ↓] theorem ap_Ek (ty : TypeId) (args : Array Value) : Builtin.append_ #[30, 30] ty args = apRow #[30, 30] ty args := rfl
theorem rowAt_sub {w : World} {b o n i k : Nat} {cs cs' : Array Value} (h : rowAt w b o n = some cs) (hc : cut cs i k = some cs') : rowAt w b (o + i) k = some cs' := by
  unfold rowAt at h ⊢
  cases hb : w.heap[b]? with
  | none => rw [hb] at h; cases h
  | some ob =>
    rw [hb] at h
    cases ob with
    | cells c t f =>
      simp only at h ⊢
      unfold cut at h hc ⊢
      split at h
      · rename_i h1
        cases h
        split at hc
        · rename_i h2
          cases hc
          simp at h2
          rw [if_pos (by omega), Array.extract_extract]
          congr 1
          congr 1 <;> omega
        · cases hc
      · cases h
    | _ => cases h
theorem in_getD {α : Type} [Inhabited α] {l : List α} {k : Nat} (h : k < l.length) : l.getD k default ∈ l := by
  rw [List.getD_eq_getElem?_getD, List.getElem?_eq_getElem h]
  exact List.getElem_mem _
theorem fits_of {ps : List Pr} {rs : List Rp} {ep : Int} {ms : List Mb} (h : Fit ps rs ms 2048) (hm : OkAll ms) (he : (Lit.int .i64 ep).wf = true) : Fits 0 ⟨ps, rs.map Rp.d, ep, ms⟩ := by
  refine ⟨⟨h.p, fun p hp => ?_, h.m, hm, he⟩, by simpa using h.r, fun d hd => ?_⟩
  · obtain ⟨i, hi, rfl⟩ := List.mem_iff_getElem.1 hp
    have := h.ps i hi
    rw [List.getD_eq_getElem?_getD, List.getElem?_eq_getElem hi] at this
    exact this
  · obtain ⟨r, hr, rfl⟩ := List.mem_map.1 hd
    obtain ⟨i, hi, rfl⟩ := List.mem_iff_getElem.1 hr
    have := h.vs i hi
    rw [List.getD_eq_getElem?_getD, List.getElem?_eq_getElem hi] at this
    refine ⟨by have h1 : (rs[i]).vals.length ≤ 300 := this.1; show (rs[i]).vals.length ≤ 400; omega, fun t ht => ?_⟩
    have ht' : t ∈ (rs[i]).vals := ht
    obtain ⟨j, hj, rfl⟩ := List.mem_iff_getElem.1 ht'
    have h2 := this.2 j hj
    rw [List.getD_eq_getElem?_getD] at h2
    simpa [List.getElem?_eq_getElem hj] using h2
theorem evs_of {ps : List Pr} {rs : List Rp} {ms : List Mb} {qs : List Rq} {es : List Ev} {most : Nat} (h : Fitw ps rs ms qs es most) {w : World} (he : ∀ m ∈ es, EvT w m) (hok : ∀ m ∈ es, m.ok) (m : Ev) (hm : m ∈ es) : EvS w m := by
  have hq := h.q m.q (List.mem_append_right _ (List.mem_map.2 ⟨m, hm, rfl⟩))
  obtain ⟨i, hi, rfl⟩ := List.mem_iff_getElem.1 hm
  have hv := h.v i hi
  rw [List.getD_eq_getElem?_getD, List.getElem?_eq_getElem hi] at hv
  have ht := he _ hm
  refine ⟨⟨ht.t, ht.s, by have h1 : (es[i]).r.vals.length ≤ 40 := hv.1; show (es[i]).r.vals.length ≤ 400; omega, fun t hT => ?_⟩, ⟨(hok _ hm).q, hq.k, hq.v, hq.o⟩⟩
  obtain ⟨j, hj, rfl⟩ := List.mem_iff_getElem.1 hT
  have h2 := hv.2 j hj
  rw [List.getD_eq_getElem?_getD] at h2
  simpa [List.getElem?_eq_getElem hj] using h2
set_option maxHeartbeats 4000000 in
theorem keeps24_walk (v : Value) (ps : List Pr) (rs : List Rp) (ep : Int) (ms : List Mb) (A : Option Addr) (n cap : Nat) (qs : List Rq) (A' : Option Addr) (n' cap' : Nat) (es : List Ev) (w : World) (h : StS w v ps rs ep ms) (hep : (Lit.int .i64 ep).wf = true) (hqs : QS w A n qs) (hqo : SlOk A n)
    (hes : ES w A' n' es) (heo : SlOk A' n') (hev : ∀ m ∈ es, EvT w m) (hpw : Pow w) :
    Calls Tryd.prog 3 #[v, .slice A n cap, .slice A' n' cap'] w fun e w' => e = .returned (.bool true) ∧ Below w.heap.size w w' := by
  have hokm : OkAll ms := by
    obtain ⟨_, _, _, _, _, _, _, _, _, _, _, M, _⟩ := h.ex
    exact M.ok
  obtain ⟨Ap, cp, Ar, cr, Am, cm, hv, -⟩ := h.ex
  obtain ⟨np, hnp⟩ : ∃ n, ps.length = n := ⟨_, rfl⟩
  obtain ⟨nr, hnr⟩ : ∃ n, rs.length = n := ⟨_, rfl⟩
  obtain ⟨nm, hnm⟩ : ∃ n, ms.length = n := ⟨_, rfl⟩
  rw [hnp, hnr, hnm] at hv
  subst hv
  obtain ⟨w1, hw1⟩ : ∃ w1, w.alloc (.cells #[.slice Ap np cp, .slice Ar nr cr, .int .i64 ep, .slice Am nm cm] 28) = w1 := ⟨_, rfl⟩
  have hb1 : Below w.heap.size w w1 := by rw [← hw1]; exact (Below.refl _ _).alloc (Nat.le_refl _) _
  have hg1 : w1.heap[w.heap.size]? = some (.cells #[.slice Ap np cp, .slice Ar nr cr, .int .i64 ep, .slice Am nm cm] 28 (0, 0)) := by rw [← hw1]; exact heap_alloc_new w _
  have r1 : rowAt w1 w.heap.size 0 4 = some #[.slice Ap np cp, .slice Ar nr cr, .int .i64 ep, .slice Am nm cm] := by unfold rowAt; rw [hg1]; exact cut_all _ _ rfl
  have hlt1 : w.heap.size < w1.heap.size := (Array.getElem?_eq_some_iff.1 hg1).1
  have E := Lib.hid (And.intro h (And.intro hep (And.intro hqs (And.intro hqo (And.intro hes (And.intro heo (And.intro hev (And.intro hpw (And.intro hokm hb1)))))))))
  clear h hep hqs hqo hes heo hev hpw hokm hb1 hg1 hnp hnr hnm
  go_enter Tryd.func3, Tryd.ntmps3
  go_wp2_with fail
  clear hw1
  refine (alive_any _ (E.out.2.2.2.2.2.2.2.1.below E.out.2.2.2.2.2.2.2.2.2)).mono ?_
  rintro e w2 ⟨rfl, hb2⟩
  have r2 := (rowAt_below hb2 hlt1 0 4).trans r1
  have hlt2 : w.heap.size < w2.heap.size := Nat.lt_of_lt_of_le hlt1 hb2.size
  have HB2 := Lib.hid (E.out.2.2.2.2.2.2.2.2.2.trans (hb2.mono E.out.2.2.2.2.2.2.2.2.2.size))
  clear hb2 r1 hlt1
  go_wp2_with fail
  refine (great24_any _ ps rs ep ms A n cap qs A' n' cap' es 5 _ (E.out.1.below HB2.out) (E.out.2.2.1.below HB2.out) E.out.2.2.2.1 (E.out.2.2.2.2.1.below HB2.out) (fun m hm => (E.out.2.2.2.2.2.2.1 m hm).below HB2.out) (by omega)).mono ?_
  rintro e w3 ⟨b, rfl, hf, hb3⟩
  have r3 := (rowAt_below hb3 hlt2 0 4).trans r2
  have hlt3 : w.heap.size < w3.heap.size := Nat.lt_of_lt_of_le hlt2 hb3.size
  cases b with
  | true =>
    have HB3 := Lib.hid (HB2.out.trans (hb3.mono HB2.out.size))
    clear hf hb3 r2 hlt2
    go_wp2_with fail
    go_ret
    exact ⟨rfl, HB3.out⟩
  | false =>
    have HB3 := Lib.hid (And.intro (HB2.out.trans (hb3.mono HB2.out.size)) (hf rfl))
    clear hf hb3 r2 hlt2
    have hn20 : (n : Int) ≤ 20 := by have := HB3.out.2.l; have := E.out.2.2.1.len; omega
    have hn5 : (n' : Int) ≤ 5 := by have := HB3.out.2.e; have := E.out.2.2.2.2.1.len; omega
    obtain ⟨v4, w4, hrun4, hown4, hb4⟩ := full_E cap' (E.out.2.2.2.2.1.below HB3.out.1) E.out.2.2.2.2.2.1 (by omega : n' ≤ 1000)
    obtain ⟨A4, c4, rfl, ho4, -⟩ := own_shape hown4
    obtain ⟨A4', c4', hv4, E4⟩ := ES_of_own hown4 (E.out.2.2.2.2.1.ok) (by omega)
    cases hv4
    have hB4 := HB3.out.1.trans (hb4.mono HB3.out.1.size)
    obtain ⟨v5, w5, hrun5, hown5, hb5⟩ := full_Q cap (E.out.2.2.1.below hB4) E.out.2.2.2.1 (by omega : n ≤ 1000)
    obtain ⟨A5, c5, rfl, ho5, -⟩ := own_shape hown5
    obtain ⟨A5', c5', hv5, Q5⟩ := QS_of_own hown5 (E.out.2.2.1.ok) (by omega)
    cases hv5
    have hB5 := hB4.trans (hb5.mono hB4.size)
    have hb45 := hb4.trans (hb5.mono hb4.size)
    have r5 := (rowAt_below hb45 hlt3 0 4).trans r3
    have hlt5 : w.heap.size < w5.heap.size := Nat.lt_of_lt_of_le hlt3 hb45.size
    have hevs := evs_of HB3.out.2 E.out.2.2.2.2.2.2.1 E.out.2.2.2.2.1.ok
    have H5 := Lib.hid (And.intro (E4.below hb5) (And.intro ho4 (And.intro Q5 (And.intro hB5 hevs))))
    clear hown4 E4 ho4 hown5 Q5 ho5 hB4 hb4 hb5 hb45 hB5 hevs r3 hlt3
    go_wp2_with fail
    clear hrun4 hrun5
    refine (check_any _ ps rs ep ms A5 n c5 qs A4 n' c4 es w5 (E.out.1.below H5.out.2.2.2.1) (fits_of HB3.out.2.f E.out.2.2.2.2.2.2.2.2.1 E.out.2.1) (E.out.2.2.2.2.2.2.2.1.below H5.out.2.2.2.1) H5.out.2.2.1 (fun q hq => by
      have := HB3.out.2.q q (List.mem_append_left _ hq)
      exact ⟨E.out.2.2.1.ok q hq, this.k, this.v, this.o⟩) H5.out.1 (fun m hm => (H5.out.2.2.2.2 m hm).below H5.out.2.2.2.1) (by omega) (by omega)).mono ?_
    rintro e w6 ⟨rfl, hb6⟩
    have r6 := (rowAt_below hb6 hlt5 0 4).trans r5
    have H6 := Lib.hid (And.intro (H5.out.1.below hb6) (And.intro H5.out.2.1 (And.intro (H5.out.2.2.1.below hb6) (And.intro (H5.out.2.2.2.1.trans (hb6.mono H5.out.2.2.2.1.size)) H5.out.2.2.2.2))))
    clear hb6 r5 H5
    go_wp2_with fail
    refine (linear_any _ ps rs ep ms A4 n' c4 es w6 (E.out.1.below H6.out.2.2.2.1) (fits_of HB3.out.2.f E.out.2.2.2.2.2.2.2.2.1 E.out.2.1) (E.out.2.2.2.2.2.2.2.1.below H6.out.2.2.2.1) H6.out.1 H6.out.2.1 (fun m hm => (H6.out.2.2.2.2 m hm).below H6.out.2.2.2.1) (by omega)).mono ?_
    rintro e w7 ⟨rfl, hb7⟩
    have H7 := Lib.hid (And.intro (H6.out.1.below hb7) (And.intro (H6.out.2.2.1.below hb7) (H6.out.2.2.2.1.trans (hb7.mono H6.out.2.2.2.1.size))))
    clear hb7 r6 H6 hlt5
    go_wp2_with fail
    go_loopw [9, 32] (fun t9 t32 wr => ∃ k : Nat, k ≤ n' ∧ t32 = .int .i64 k ∧ Below w7.heap.size w7 wr) (fun _ t _ => n' - (intOf t).toNat)
    case atStart => exact ⟨0, by omega, rfl, Below.refl _ _⟩
    case round =>
      obtain ⟨k, hk, rfl, hb⟩ := hrel
      have hk0 : (0 : Int) ≤ k := by omega
      by_cases hlt : k < n'
      · have hk1 : (k : Int) < n' := by omega
        obtain ⟨b, off, rfl, hbb, hrow⟩ := E.out.2.2.2.2.1.mem (by omega)
        obtain ⟨bm, om, rfl, hbm, hrowm⟩ := H7.out.1.mem (by omega)
        have hok := E.out.2.2.2.2.1.okAt hlt
        have hin := in_getD (l := es) (k := k) (by rw [E.out.2.2.2.2.1.len]; exact hlt)
        have hte := (E.out.2.2.2.2.2.2.1 _ hin).t
        have hra := hrow k hlt
        have hrb := hrowm k hlt
        generalize es.getD k default = m at hok hin hte hra hrb
        have hBw := H7.out.2.2.trans (hb.mono H7.out.2.2.size)
        have eK : ∀ w', Below wr.heap.size wr w' → rowAt w' bm (om + k * 48) 42 = some m.q.arr ∧ rowAt w' b (off + k * 48) 42 = some m.q.arr ∧ w'.cell? ⟨bm, om + k * 48 + 47, none⟩ = some (.int .i64 m.done) ∧ w'.cell? ⟨b, off + k * 48 + 47, none⟩ = some (.int .i64 m.done) ∧ rowAt w' bm (om + k * 48 + 42) 4 = some m.r.arr ∧ rowAt w' b (off + k * 48 + 42) 4 = some m.r.arr ∧ Below wr.heap.size wr w' := fun w' hb' => by
          have x1 := (rowAt_below (hb.trans (hb'.mono hb.size)) hbm _ _).trans hrb
          have x2 := (rowAt_below (hBw.trans (hb'.mono hBw.size)) hbb _ _).trans hra
          exact ⟨rowAt_sub (o := om + k * 48) (i := 0) x1 (Ev.cutQ hok), rowAt_sub (o := off + k * 48) (i := 0) x2 (Ev.cutQ hok), cell_of_rowAt x1 47 _ (Ev.at47 hok), cell_of_rowAt x2 47 _ (Ev.at47 hok), rowAt_sub x1 (Ev.cutR hok), rowAt_sub x2 (Ev.cutR hok), hb'⟩
        have hne : ∀ w', (neRq m.q.arr m.q.arr).run Tryd.prog w' = .ok (.bool false) w' := fun w' => by
          rw [run_neRq hok.q hok.q, rqEq_self]; rfl
        have hsame : ∀ w', Below wr.heap.size wr w' → Calls Tryd.prog 10 #[.agg m.r.arr, .agg m.r.arr] w' fun e w'' => e = .returned (.bool true) ∧ Below wr.heap.size wr w'' := fun w' hb' =>
          (same09_self m.r w' (hte.below (hBw.trans (hb'.mono hBw.size)))).mono fun e w'' hh => ⟨hh.1, hb'.trans (hh.2.mono hb'.size)⟩
        have hbr : Below wr.heap.size wr wr.drew := (Below.refl _ _).drew
        have HR := Lib.hid hb
        clear hrow hrowm hra hrb hte hBw hb
        go_wp2_with fail
        go_region_held3 (fun w' => rowAt w' bm (om + k * 48) 42 = some m.q.arr ∧ rowAt w' b (off + k * 48) 42 = some m.q.arr ∧ w'.cell? ⟨bm, om + k * 48 + 47, none⟩ = some (.int .i64 m.done) ∧ w'.cell? ⟨b, off + k * 48 + 47, none⟩ = some (.int .i64 m.done) ∧ rowAt w' bm (om + k * 48 + 42) 4 = some m.r.arr ∧ rowAt w' b (off + k * 48 + 42) 4 = some m.r.arr ∧ Below wr.heap.size wr w') (first | exact eK _ (by assumption)) (first | (go_at_call 10; refine (hsame _ (by assumption)).mono ?_; rintro e w9 ⟨rfl, hb9⟩))
        have HR9 := Lib.hid (HR.out.trans (hb9.mono HR.out.size))
        clear hb9
        go_wp2_with fail
        go_roundw
        case rel => exact ⟨k + 1, by omega, by go_num, HR9.out⟩
        case measure => simp [intOf]; omega
      · have hkn : k = n' := by omega
        have HR := Lib.hid hb
        clear hb
        go_wp2_with fail
        go_loopw [10, 76] (fun t10 t76 wv => ∃ j : Nat, j ≤ n ∧ t76 = .int .i64 j ∧ Below w7.heap.size w7 wv) (fun _ t _ => n - (intOf t).toNat)
        case atStart => exact ⟨0, by omega, rfl, HR.out⟩
        case round =>
          clear HR
          obtain ⟨j, hj, rfl, hb⟩ := hrel
          have hj0 : (0 : Int) ≤ j := by omega
          by_cases hlt2 : j < n
          · have hj1 : (j : Int) < n := by omega
            obtain ⟨b, off, rfl, hbb, hrow⟩ := E.out.2.2.1.mem (by omega)
            obtain ⟨bm, om, rfl, hbm, hrowm⟩ := H7.out.2.1.mem (by omega)
            have hok := E.out.2.2.1.okAt hlt2
            have hBw := H7.out.2.2.trans (hb.mono H7.out.2.2.size)
            have x1 := (rowAt_below hb hbm _ _).trans (hrowm j hlt2)
            have x2 := (rowAt_below hBw hbb _ _).trans (hrow j hlt2)
            generalize qs.getD j default = q at hok x1 x2
            have x3 : rowAt wr.drew bm (om + j * 42) 42 = some q.arr := x1
            have x4 : rowAt wr.drew b (off + j * 42) 42 = some q.arr := x2
            have hne : ∀ w', (neRq q.arr q.arr).run Tryd.prog w' = .ok (.bool false) w' := fun w' => by
              rw [run_neRq hok hok, rqEq_self]; rfl
            have HR := Lib.hid hb
            clear hrow hrowm hBw hb hok hbb hbm
            go_wp2_with fail
            go_region
            go_wp2_with fail
            go_roundw
            case rel => exact ⟨j + 1, by omega, by go_num, HR.out.drew⟩
            case measure => simp [intOf]; omega
          · have hjn : j = n := by omega
            have HR := Lib.hid hb
            clear hb
            go_wp2_with fail
            go_ret
            exact ⟨rfl, H7.out.2.2.trans (HR.out.mono H7.out.2.2.size)⟩
end Go.Proofs.YtfnfgnhbnffagaaDoor
