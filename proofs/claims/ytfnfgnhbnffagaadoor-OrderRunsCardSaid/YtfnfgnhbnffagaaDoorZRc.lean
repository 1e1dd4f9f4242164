/-
The document's answer: where a key is, where a client's last reply is.
-/
import Derived.Test.YtfnfgnhbnffagaaDoorZKpw
import Derived.Test.YtfnfgnhbnffagaaDoorZLook
import Derived.Test.YtfnfgnhbnffagaaDoorZDcf
namespace Go.Proofs.YtfnfgnhbnffagaaDoor
open Go.RowKit
set_option linter.unusedVariables false
set_option linter.unusedSimpArgs false
set_option maxRecDepth 100000
def AtP (ps : List Pr) (key : ByteArray) (i : Int) : Prop :=
  (i = -1 ∧ ∀ j, j < ps.length → ((ps.getD j default).key.toList == key.toList) = false) ∨ ∃ k, k < ps.length ∧ i = (k : Int) ∧ ((ps.getD k default).key.toList == key.toList) = true
def AtR (rs : List Rp) (c : Int) (i : Int) : Prop :=
  (i = -1 ∧ ∀ j, j < rs.length → (rs.getD j default).client ≠ c) ∨ ∃ k, k < rs.length ∧ i = (k : Int) ∧ (rs.getD k default).client = c ∧ ∀ j, j < k → (rs.getD j default).client ≠ c
set_option maxHeartbeats 4000000 in
theorem place10_any (v : Value) (ps : List Pr) (rs : List Rp) (ep : Int) (ms : List Mb) (key : ByteArray) (w : World) (h : StS w v ps rs ep ms) : Calls Tryd.prog 37 #[v, .string key] w fun e w' => (∃ i, e = .returned (.int .i64 i) ∧ AtP ps key i) ∧ Below w.heap.size w w' := by
  obtain ⟨Ap, cp, Ar, cr, Am, cm, rfl, h1, -⟩ := h.ex
  obtain ⟨np, hnp⟩ : ∃ n, ps.length = n := ⟨_, rfl⟩
  have s1 := h1.small
  rw [hnp] at h1 s1 ⊢
  obtain ⟨nr, hnr⟩ : ∃ n, rs.length = n := ⟨_, rfl⟩
  obtain ⟨nm, hnm⟩ : ∃ n, ms.length = n := ⟨_, rfl⟩
  rw [hnr, hnm]
  have hB : Below w.heap.size w (w.alloc (.cells #[.slice Ap np cp, .slice Ar nr cr, .int .i64 ep, .slice Am nm cm] 28)) := (Below.refl _ _).alloc (Nat.le_refl _) _
  have H := Lib.hid (And.intro h1 (And.intro hnp hB))
  have hni : (np : Int) ≤ 140737488355328 := by omega
  clear h h1 hnp hnr hnm hB s1
  go_enter Tryd.func37, Tryd.ntmps37
  go_wp2_with fail
  go_loopw [5, 6, 10] (fun t5 t6 t10 wr => ∃ k : Nat, k ≤ np ∧ t10 = .int .i64 k ∧ (∀ j, j < k → ((ps.getD j default).key.toList == key.toList) = false) ∧ Below w.heap.size w wr) (fun _ _ t _ => np - (intOf t).toNat)
  case atStart => exact ⟨0, by omega, rfl, fun i hi => by omega, H.out.2.2⟩
  case round =>
    obtain ⟨k, hk, rfl, hne, hb⟩ := hrel
    have hk0 : (0 : Int) ≤ k := by omega
    by_cases hlt : k < np
    · have hk1 : (k : Int) < np := by omega
      obtain ⟨b, off, rfl, hbb, hrow⟩ := H.out.1.mem (by omega)
      have hr := (rowAt_below hb hbb _ _).trans (hrow k hlt)
      have NE := Lib.hid (And.intro hne hb)
      clear hne hrow hb
      obtain ⟨x, hx⟩ : ∃ x, ps.getD k default = x := ⟨_, rfl⟩
      rw [hx] at hr
      obtain ⟨xk, xv⟩ := x
      replace hr : rowAt wr b (off + k * 2) 2 = some #[.string xk, .string xv] := hr
      have HX := Lib.hid hx
      clear hx
      cases he : xk.toList == key.toList with
      | true =>
        have HE := Lib.hid he
        go_wp2_with fail
        go_ret
        exact ⟨⟨k, rfl, .inr ⟨k, by rw [H.out.2.1]; exact hlt, rfl, by rw [HX.out]; exact HE.out⟩⟩, NE.out.2.alloc NE.out.2.size _⟩
      | false =>
        have HE := Lib.hid he
        go_wp2_with fail
        go_roundw
        case rel =>
          refine ⟨k + 1, by omega, by go_num, fun j hj => ?_, NE.out.2.alloc NE.out.2.size _⟩
          rcases Nat.lt_or_ge j k with c | c
          · exact NE.out.1 j c
          · obtain rfl : j = k := by omega
            rw [HX.out]; exact HE.out
        case measure => simp [intOf]; omega
    · have NE := Lib.hid (And.intro hne hb)
      clear hne hb
      go_wp2_with fail
      go_ret
      exact ⟨⟨-1, rfl, .inl ⟨rfl, fun j hj => NE.out.1 j (by rw [H.out.2.1] at hj; omega)⟩⟩, NE.out.2⟩
set_option maxHeartbeats 4000000 in
theorem last10_any (v : Value) (ps : List Pr) (rs : List Rp) (ep : Int) (ms : List Mb) (c : Int) (w : World) (h : StS w v ps rs ep ms) : Calls Tryd.prog 11 #[v, .int .i64 c] w fun e w' => (∃ i, e = .returned (.int .i64 i) ∧ AtR rs c i) ∧ Below w.heap.size w w' := by
  obtain ⟨Ap, cp, Ar, cr, Am, cm, rfl, -, -, h1, -⟩ := h.ex
  obtain ⟨np, hnp⟩ : ∃ n, ps.length = n := ⟨_, rfl⟩
  have s1 := h1.small
  obtain ⟨nr, hnr⟩ : ∃ n, rs.length = n := ⟨_, rfl⟩
  obtain ⟨nm, hnm⟩ : ∃ n, ms.length = n := ⟨_, rfl⟩
  rw [hnr] at h1 s1 ⊢
  rw [hnp, hnm]
  have hB : Below w.heap.size w (w.alloc (.cells #[.slice Ap np cp, .slice Ar nr cr, .int .i64 ep, .slice Am nm cm] 28)) := (Below.refl _ _).alloc (Nat.le_refl _) _
  have H := Lib.hid (And.intro h1 (And.intro hnr hB))
  have hni : (nr : Int) ≤ 140737488355328 := by omega
  clear h h1 hnp hnr hnm hB s1
  go_enter Tryd.func11, Tryd.ntmps11
  go_wp2_with fail
  go_loopw [5, 6, 10] (fun t5 t6 t10 wr => ∃ k : Nat, k ≤ nr ∧ t10 = .int .i64 k ∧ (∀ j, j < k → (rs.getD j default).client ≠ c) ∧ Below w.heap.size w wr) (fun _ _ t _ => nr - (intOf t).toNat)
  case atStart => exact ⟨0, by omega, rfl, fun i hi => by omega, H.out.2.2⟩
  case round =>
    obtain ⟨k, hk, rfl, hne, hb⟩ := hrel
    have hk0 : (0 : Int) ≤ k := by omega
    by_cases hlt : k < nr
    · have hk1 : (k : Int) < nr := by omega
      obtain ⟨b, off, rfl, hbb, hrow⟩ := H.out.1.mem (by omega)
      have hr := (rowAt_below hb hbb _ _).trans (hrow k hlt)
      have NE := Lib.hid (And.intro hne hb)
      clear hne hrow hb
      obtain ⟨x, hx⟩ : ∃ x, rs.getD k default = x := ⟨_, rfl⟩
      rw [hx] at hr
      obtain ⟨xc, xn, xe, xA, xq, xv⟩ := x
      replace hr : rowAt wr b (off + k * 4) 4 = some #[.int .i64 xc, .int .i64 xn, .int .i64 xe, .slice xA xv.length xq] := hr
      have HX := Lib.hid hx
      clear hx
      cases he : xc == c with
      | true =>
        have HE := Lib.hid (beq_iff_eq.1 he)
        go_wp2_with fail
        go_ret
        exact ⟨⟨k, rfl, .inr ⟨k, by rw [H.out.2.1]; exact hlt, rfl, by rw [HX.out]; exact HE.out, NE.out.1⟩⟩, NE.out.2.alloc NE.out.2.size _⟩
      | false =>
        have HE := Lib.hid (beq_eq_false_iff_ne.1 he)
        go_wp2_with fail
        go_roundw
        case rel =>
          refine ⟨k + 1, by omega, by go_num, fun j hj => ?_, NE.out.2.alloc NE.out.2.size _⟩
          rcases Nat.lt_or_ge j k with c | c
          · exact NE.out.1 j c
          · obtain rfl : j = k := by omega
            rw [HX.out]; exact HE.out
        case measure => simp [intOf]; omega
    · have NE := Lib.hid (And.intro hne hb)
      clear hne hb
      go_wp2_with fail
      go_ret
      exact ⟨⟨-1, rfl, .inl ⟨rfl, fun j hj => NE.out.1 j (by rw [H.out.2.1] at hj; omega)⟩⟩, NE.out.2⟩
end Go.Proofs.YtfnfgnhbnffagaaDoor

/-
The document's answer: pairs with one, and without one.
-/
namespace Go.Proofs.YtfnfgnhbnffagaaDoor
open Go.RowKit
set_option linter.unusedVariables false
set_option linter.unusedSimpArgs false
set_option maxRecDepth 100000
@[go_sem ↓] theorem ap_RP (ty : TypeId) (args : Array Value) : Builtin.append_ #[22, 22] ty args = apRow #[22, 22] ty args := rfl
/-- one more behind the others -/
theorem pushP {w : World} {B n : Nat} {v : Value} {qs : List Pr} (ty : TypeId) (h : w.ownsRow B 75 2 v n (flatC Pr.cells qs)) {x : Pr} (hx : x.ok) (hn : n ≤ 100000) (hB : B ≤ w.heap.size) :
    ∃ v' w', (apRow #[22, 22] ty #[v, .slice (some ⟨w.heap.size, 0, none⟩) 1 1]).run Tryd.prog (w.alloc (.cells x.arr 75)) = .ok v' w' ∧ w'.ownsRow B 75 2 v' (n + 1) (flatC Pr.cells (qs ++ [x])) ∧ Below B w w' ∧ Mv (fun k => v.ownBlock = some k) w w' := by
  obtain ⟨i0, hi, hz0, hz1, hz2⟩ := info_parts infoMP
  obtain ⟨v', w', h1, h2, h3, -, h5⟩ := run_append_own_at (P := Tryd.prog) (w.alloc (.cells x.arr 75)) B 22 ty 75 i0 (.agg Pr.zero.arr) 2 32 Tryd.underlying22 hi hz0 hz1 hz2 rfl (by decide) v n (flatC Pr.cells qs) (World.ownsRow.alloc h _) ⟨w.heap.size, 0, none⟩ 1 1 x.cells (by rw [Pr.len hx])
    (fun j u hu => by rw [Addr.add_mid, Nat.zero_add, World.cell?_alloc_at _ _ _ _ rfl]; simpa [Pr.arr] using hu) (cells_onesP x) (by simp only [maxLen]; omega) (by omega) (by simp; omega)
  have hmv : Mv (fun k => v.ownBlock = some k) w w' := (Mv.alloc w _).trans (Mv.of_grown (fp := fun k => v.ownBlock = some k) h3 (fun k hk => hk)) (fun i _ c => c)
  refine ⟨v', w', h1, ?_, hmv.below hB (fun k hk => (own_lt h hk).1), hmv⟩
  rw [flatC_append, flatC_one]
  exact h2
/-- all but those of a name -/
def withoutP (ps : List Pr) (key : ByteArray) : List Pr := ps.filter fun p => !(p.key.toList == key.toList)
def RowsP (L : List Pr) (w : World) (e : Ending) (w' : World) : Prop := ∃ A cap, e = .returned (.slice A L.length cap) ∧ w'.ownsRow w.heap.size 75 2 (.slice A L.length cap) L.length (flatC Pr.cells L) ∧ Below w.heap.size w w'
set_option maxHeartbeats 4000000 in
theorem without10_any (A : Option Addr) (n cap : Nat) (ps : List Pr) (key : ByteArray) (w : World) (h : PS w A n ps) (hn : n ≤ 50000) : Calls Tryd.prog 39 #[.slice A n cap, .string key] w (RowsP (withoutP ps key) w) := by
  have hni : (n : Int) ≤ 50000 := by omega
  have H := Lib.hid h
  clear h
  go_enter Tryd.func39, Tryd.ntmps39
  go_wp2_with fail
  go_loopw [5, 7, 10] (fun t5 t7 t10 wr => ∃ k : Nat, k ≤ n ∧ t10 = .int .i64 k ∧ ∃ A5 m c5, t5 = .slice A5 m c5 ∧ wr.ownsRow w.heap.size 75 2 (.slice A5 m c5) m (flatC Pr.cells (withoutP (ps.take k) key)) ∧ m = (withoutP (ps.take k) key).length ∧ m ≤ k ∧ Below w.heap.size w wr) (fun _ _ t _ => n - (intOf t).toNat)
  case atStart => exact ⟨0, by omega, rfl, none, 0, 0, rfl, World.ownsRow_nil _ _ _ _, rfl, by omega, Below.refl _ _⟩
  case round =>
    obtain ⟨k, hk, rfl, A5, m, c5, rfl, hown, hm, hmk, hb⟩ := hrel
    have hk0 : (0 : Int) ≤ k := by omega
    by_cases hlt : k < n
    · have hk1 : (k : Int) < n := by omega
      obtain ⟨b, off, rfl, hbb, hrow⟩ := H.out.mem (by omega)
      have hr := (rowAt_below hb hbb _ _).trans (hrow k hlt)
      have hok := H.out.okAt hlt
      have htk := take_snoc (l := ps) (k := k) (by rw [H.out.len]; exact hlt)
      obtain ⟨x, hx⟩ : ∃ x, ps.getD k default = x := ⟨_, rfl⟩
      rw [hx] at hr hok htk
      have hwk : withoutP (ps.take (k + 1)) key = if (x.key.toList == key.toList) = true then withoutP (ps.take k) key else withoutP (ps.take k) key ++ [x] := by
        unfold withoutP
        rw [htk, List.filter_append]
        cases hc : x.key.toList == key.toList <;> simp [hc]
      have s1 := Pr.sz hok
      have o1 := x.ones
      have a0 := x.at0
      have ct := Pr.cut hok
      obtain ⟨w5, hw5⟩ : ∃ w5, wr.alloc (.cells x.arr 75) = w5 := ⟨_, rfl⟩
      have hb5 : Below wr.heap.size wr w5 := by rw [← hw5]; exact (Below.refl _ _).alloc (Nat.le_refl _) _
      have hg5 : w5.heap[wr.heap.size]? = some (.cells x.arr 75 (0, 0)) := by rw [← hw5]; exact heap_alloc_new wr _
      have r5 : rowAt w5 wr.heap.size 0 2 = some x.arr := by unfold rowAt; rw [hg5]; exact ct
      have c50 : w5.cell? ⟨wr.heap.size, 0, none⟩ = x.arr[0]? := by rw [cell_of_row hg5 a0, a0]
      rw [a0] at c50
      have hown5 := own_mv (fp := fun _ => False) hown (Mv.of_below hb5) (fun _ _ c => c)
      obtain ⟨v8, w8, hrun8, hown8, hB8, -⟩ := pushP 22 hown5 hok (by omega) (Nat.le_trans hb.size hb5.size)
      obtain ⟨A8, c8, rfl, -, -⟩ := own_shape hown8
      have hbs := fun w => bs_M1P hok w
      have E := Lib.hid (And.intro hwk (And.intro hown5 (And.intro hown8 (And.intro (hb.trans (hb5.mono hb.size)) (And.intro hB8 (And.intro hm hmk))))))
      clear hwk htk hx hown hown5 hown8 hb hb5 hB8 hm hrow hg5
      cases he : x.key.toList == key.toList with
      | true =>
        have HE := Lib.hid he
        go_wp2_with fail
        go_roundw
        case rel =>
          refine ⟨k + 1, by omega, by go_num, A5, m, c5, rfl, ?_, ?_, by omega, E.out.2.2.2.1⟩
          · rw [E.out.1, if_pos HE.out]; exact E.out.2.1
          · rw [E.out.1, if_pos HE.out]; exact E.out.2.2.2.2.2.1
        case measure => simp [intOf]; omega
      | false =>
        have HE := Lib.hid he
        go_wp2_with fail
        go_roundw
        case rel =>
          refine ⟨k + 1, by omega, by go_num, A8, m + 1, c8, rfl, ?_, ?_, by have := E.out.2.2.2.2.2.2; omega, E.out.2.2.2.1.trans E.out.2.2.2.2.1⟩
          · rw [E.out.1, if_neg (by rw [HE.out]; decide)]; exact E.out.2.2.1
          · rw [E.out.1, if_neg (by rw [HE.out]; decide), List.length_append, ← E.out.2.2.2.2.2.1]; rfl
        case measure => simp [intOf]; omega
    · have hkn : k = n := by omega
      have hfull : ps.take k = ps := List.take_of_length_le (by rw [H.out.len]; omega)
      rw [hfull] at hown hm
      subst hm
      have E := Lib.hid (And.intro hown hb)
      clear hown hb hfull
      go_wp2_with fail
      go_ret
      exact ⟨A5, c5, rfl, E.out.1, E.out.2⟩
def withAP (x : Pr) (s : List Pr × Bool) (p : Pr) : List Pr × Bool := if (!s.2 && !Op.bytesLess p.key.toList x.key.toList) = true then (s.1 ++ [x], true) else s
def withSP (x : Pr) (s : List Pr × Bool) (p : Pr) : List Pr × Bool := if (p.key.toList == x.key.toList) = true then withAP x s p else ((withAP x s p).1 ++ [p], (withAP x s p).2)
def withP (ps : List Pr) (x : Pr) : List Pr := if (ps.foldl (withSP x) ([], false)).2 = true then (ps.foldl (withSP x) ([], false)).1 else (ps.foldl (withSP x) ([], false)).1 ++ [x]
set_option maxHeartbeats 8000000 in
theorem with10_any (A : Option Addr) (n cap : Nat) (ps : List Pr) (x : Pr) (hx : x.ok) (w : World) (h : PS w A n ps) (hn : n ≤ 10000) : Calls Tryd.prog 38 #[.slice A n cap, .agg x.arr] w (RowsP (withP ps x) w) := by
  have hni : (n : Int) ≤ 10000 := by omega
  have sx := Pr.sz hx
  have ox := x.ones
  have ax := x.at0
  obtain ⟨w1, hw1⟩ : ∃ w1, w.alloc (.cells x.arr 75) = w1 := ⟨_, rfl⟩
  have hb1 : Below w.heap.size w w1 := by rw [← hw1]; exact (Below.refl _ _).alloc (Nat.le_refl _) _
  have hg1 : w1.heap[w.heap.size]? = some (.cells x.arr 75 (0, 0)) := by rw [← hw1]; exact heap_alloc_new w _
  have hl1 : w.heap.size < w1.heap.size := (Array.getElem?_eq_some_iff.1 hg1).1
  have H := Lib.hid (And.intro h (And.intro hx (And.intro hb1 (And.intro hg1 hl1))))
  clear h hx hb1 hg1 hl1
  go_enter Tryd.func38, Tryd.ntmps38
  go_wp2_with fail
  clear hw1
  go_loopw [5, 6, 8, 11] (fun t5 t6 t8 t11 wr => ∃ k : Nat, k ≤ n ∧ t11 = .int .i64 k ∧ ∃ A5 m c5 L d, t5 = .slice A5 m c5 ∧ t6 = .bool d ∧ (L, d) = (ps.take k).foldl (withSP x) ([], false) ∧ wr.ownsRow w1.heap.size 75 2 (.slice A5 m c5) m (flatC Pr.cells L) ∧ m = L.length ∧ m ≤ 2 * k ∧ Below w1.heap.size w1 wr) (fun _ _ _ t _ => n - (intOf t).toNat)
  case atStart => exact ⟨0, by omega, rfl, none, 0, 0, [], false, rfl, rfl, rfl, World.ownsRow_nil _ _ _ _, rfl, by omega, Below.refl _ _⟩
  case round =>
    obtain ⟨k, hk, rfl, A5, m, c5, L, d, rfl, rfl, hfold, hown, hm, hmk, hb⟩ := hrel
    have hk0 : (0 : Int) ≤ k := by omega
    by_cases hlt : k < n
    · have hk1 : (k : Int) < n := by omega
      obtain ⟨b, off, rfl, hbb, hrow⟩ := H.out.1.mem (by omega)
      have hr := (rowAt_below (H.out.2.2.1.trans (hb.mono H.out.2.2.1.size)) hbb _ _).trans (hrow k hlt)
      have hok := H.out.1.okAt hlt
      have htk := take_snoc (l := ps) (k := k) (by rw [H.out.1.len]; exact hlt)
      obtain ⟨y, hy⟩ : ∃ y, ps.getD k default = y := ⟨_, rfl⟩
      rw [hy] at hr hok htk
      have hfk : (ps.take (k + 1)).foldl (withSP x) ([], false) = withSP x (L, d) y := by rw [htk, List.foldl_append, ← hfold]; rfl
      have sy := Pr.sz hok
      have oy := y.ones
      have ay := y.at0
      obtain ⟨w5, hw5⟩ : ∃ w5, wr.alloc (.cells y.arr 75) = w5 := ⟨_, rfl⟩
      have hb5 : Below wr.heap.size wr w5 := by rw [← hw5]; exact (Below.refl _ _).alloc (Nat.le_refl _) _
      have hB5 := hb.trans (hb5.mono hb.size)
      have hg5 : w5.heap[wr.heap.size]? = some (.cells y.arr 75 (0, 0)) := by rw [← hw5]; exact heap_alloc_new wr _
      have hl5 : wr.heap.size < w5.heap.size := (Array.getElem?_eq_some_iff.1 hg5).1
      have hg50 : w5.heap[w.heap.size]? = some (.cells x.arr 75 (0, 0)) := (hB5.block _ H.out.2.2.2.2).trans H.out.2.2.2.1
      have hown5 := own_mv (fp := fun _ => False) hown (Mv.of_below hb5) (fun _ _ c => c)
      have K8 : ∀ w8, Mv (fun k => (Value.slice A5 m c5).ownBlock = some k) w5 w8 → w8.heap[wr.heap.size]? = some (.cells y.arr 75 (0, 0)) ∧ w8.heap[w.heap.size]? = some (.cells x.arr 75 (0, 0)) := fun w8 hm8 =>
        ⟨(hm8.block _ hl5 (fun e => by have := (own_lt hown e).2; omega)).trans hg5, (hm8.block _ (Nat.lt_of_lt_of_le H.out.2.2.2.2 hB5.size) (fun e => by have := (own_lt hown e).1; have := H.out.2.2.2.2; omega)).trans hg50⟩
      have R : ∀ w8 : World, w8.heap[wr.heap.size]? = some (.cells y.arr 75 (0, 0)) ∧ w8.heap[w.heap.size]? = some (.cells x.arr 75 (0, 0)) → rowAt w8 wr.heap.size 0 2 = some y.arr ∧ rowAt w8 w.heap.size 0 2 = some x.arr ∧ w8.cell? ⟨wr.heap.size, 0, none⟩ = some (.string y.key) ∧ w8.cell? ⟨w.heap.size, 0, none⟩ = some (.string x.key) := fun w8 hh =>
        ⟨by unfold rowAt; rw [hh.1]; exact Pr.cut hok, by unfold rowAt; rw [hh.2]; exact Pr.cut H.out.2.1, by rw [cell_of_row hh.1 ay], by rw [cell_of_row hh.2 ax]⟩
      obtain ⟨r1, r2, r3, r4⟩ := R w5 ⟨hg5, hg50⟩
      have hbx := fun w => bs_M1P H.out.2.1 w
      have hby := fun w => bs_M1P hok w
      have E := Lib.hid (And.intro hfk (And.intro hown5 (And.intro hB5 (And.intro K8 (And.intro R (And.intro hm (And.intro hmk (And.intro hok hb.size))))))))
      clear hfk htk hy hown hown5 hb hb5 hB5 hg5 hg50 hl5 K8 R hm hrow hfold hok
      cases d with
      | true =>
        cases he : y.key.toList == x.key.toList with
        | true =>
          have F := Lib.hid (And.intro E.out.2.1 E.out.2.2.1)
          have hstep : withSP x (L, true) y = (L, true) := by
            simp [withSP, withAP, he]
          have HS := Lib.hid hstep
          clear hstep
          go_wp2_with fail
          go_roundw
          case rel =>
            refine ⟨k + 1, by omega, by go_num, A5, m, c5, L, true, rfl, rfl, ?_, F.out.1, ?_, by have := E.out.2.2.2.2.2.2.1; omega, F.out.2⟩
            · rw [E.out.1, HS.out]
            · have := E.out.2.2.2.2.2.1; simp [this]
          case measure => simp [intOf]; omega
        | false =>
          obtain ⟨v9, w9, hrun9, hown9, hB9, -⟩ := pushP 22 E.out.2.1 E.out.2.2.2.2.2.2.2.1 (by have := E.out.2.2.2.2.2.2.1; omega) E.out.2.2.1.size
          obtain ⟨A9, c9, rfl, -, -⟩ := own_shape hown9
          have F := Lib.hid (And.intro hown9 (E.out.2.2.1.trans hB9))
          have hstep : withSP x (L, true) y = ((L ++ [y]), true) := by
            simp [withSP, withAP, he]
          have HS := Lib.hid hstep
          clear hstep hown9 hB9
          go_wp2_with fail
          go_roundw
          case rel =>
            refine ⟨k + 1, by omega, by go_num, A9, m + 1, c9, (L ++ [y]), true, rfl, rfl, ?_, F.out.1, ?_, by have := E.out.2.2.2.2.2.2.1; omega, F.out.2⟩
            · rw [E.out.1, HS.out]
            · have := E.out.2.2.2.2.2.1; simp [this]
          case measure => simp [intOf]; omega
      | false =>
        cases hg : Op.bytesLess y.key.toList x.key.toList with
        | false =>
          cases he : y.key.toList == x.key.toList with
          | true =>
            obtain ⟨v8, w8, hrun8, hown8, hB8, hm8⟩ := pushP 22 E.out.2.1 H.out.2.1 (by have := E.out.2.2.2.2.2.2.1; omega) E.out.2.2.1.size
            obtain ⟨A8, c8, rfl, -, -⟩ := own_shape hown8
            obtain ⟨p1, p2, p3, p4⟩ := E.out.2.2.2.2.1 _ (E.out.2.2.2.1 _ hm8)
            have F := Lib.hid (And.intro hown8 (E.out.2.2.1.trans hB8))
            have hstep : withSP x (L, false) y = ((L ++ [x]), true) := by
              simp [withSP, withAP, hg, he]
            have HS := Lib.hid hstep
            clear hstep hown8 hB8 hm8
            go_wp2_with fail
            go_roundw
            case rel =>
              refine ⟨k + 1, by omega, by go_num, A8, m + 1, c8, (L ++ [x]), true, rfl, rfl, ?_, F.out.1, ?_, by have := E.out.2.2.2.2.2.2.1; omega, F.out.2⟩
              · rw [E.out.1, HS.out]
              · have := E.out.2.2.2.2.2.1; simp [this]
            case measure => simp [intOf]; omega
          | false =>
            obtain ⟨v8, w8, hrun8, hown8, hB8, hm8⟩ := pushP 22 E.out.2.1 H.out.2.1 (by have := E.out.2.2.2.2.2.2.1; omega) E.out.2.2.1.size
            obtain ⟨A8, c8, rfl, -, -⟩ := own_shape hown8
            obtain ⟨p1, p2, p3, p4⟩ := E.out.2.2.2.2.1 _ (E.out.2.2.2.1 _ hm8)
            obtain ⟨v9, w9, hrun9, hown9, hB9, -⟩ := pushP 22 hown8 E.out.2.2.2.2.2.2.2.1 (by have := E.out.2.2.2.2.2.2.1; omega) (Nat.le_trans E.out.2.2.1.size hB8.size)
            obtain ⟨A9, c9, rfl, -, -⟩ := own_shape hown9
            have F := Lib.hid (And.intro hown9 ((E.out.2.2.1.trans hB8).trans hB9))
            have hstep : withSP x (L, false) y = (((L ++ [x]) ++ [y]), true) := by
              simp [withSP, withAP, hg, he]
            have HS := Lib.hid hstep
            clear hstep hown8 hB8 hm8 hown9 hB9
            go_wp2_with fail
            go_roundw
            case rel =>
              refine ⟨k + 1, by omega, by go_num, A9, m + 1 + 1, c9, ((L ++ [x]) ++ [y]), true, rfl, rfl, ?_, F.out.1, ?_, by have := E.out.2.2.2.2.2.2.1; omega, F.out.2⟩
              · rw [E.out.1, HS.out]
              · have := E.out.2.2.2.2.2.1; simp [this]
            case measure => simp [intOf]; omega
        | true =>
          cases he : y.key.toList == x.key.toList with
          | true =>
            have F := Lib.hid (And.intro E.out.2.1 E.out.2.2.1)
            have hstep : withSP x (L, false) y = (L, false) := by
              simp [withSP, withAP, hg, he]
            have HS := Lib.hid hstep
            clear hstep
            go_wp2_with fail
            go_roundw
            case rel =>
              refine ⟨k + 1, by omega, by go_num, A5, m, c5, L, false, rfl, rfl, ?_, F.out.1, ?_, by have := E.out.2.2.2.2.2.2.1; omega, F.out.2⟩
              · rw [E.out.1, HS.out]
              · have := E.out.2.2.2.2.2.1; simp [this]
            case measure => simp [intOf]; omega
          | false =>
            obtain ⟨v9, w9, hrun9, hown9, hB9, -⟩ := pushP 22 E.out.2.1 E.out.2.2.2.2.2.2.2.1 (by have := E.out.2.2.2.2.2.2.1; omega) E.out.2.2.1.size
            obtain ⟨A9, c9, rfl, -, -⟩ := own_shape hown9
            have F := Lib.hid (And.intro hown9 (E.out.2.2.1.trans hB9))
            have hstep : withSP x (L, false) y = ((L ++ [y]), false) := by
              simp [withSP, withAP, hg, he]
            have HS := Lib.hid hstep
            clear hstep hown9 hB9
            go_wp2_with fail
            go_roundw
            case rel =>
              refine ⟨k + 1, by omega, by go_num, A9, m + 1, c9, (L ++ [y]), false, rfl, rfl, ?_, F.out.1, ?_, by have := E.out.2.2.2.2.2.2.1; omega, F.out.2⟩
              · rw [E.out.1, HS.out]
              · have := E.out.2.2.2.2.2.1; simp [this]
            case measure => simp [intOf]; omega
    · have hkn : k = n := by omega
      have hfull : ps.take k = ps := List.take_of_length_le (by rw [H.out.1.len]; omega)
      rw [hfull] at hfold
      have hl0 : w.heap.size < wr.heap.size := Nat.lt_of_lt_of_le H.out.2.2.2.2 hb.size
      have hgw : wr.heap[w.heap.size]? = some (.cells x.arr 75 (0, 0)) := (hb.block _ H.out.2.2.2.2).trans H.out.2.2.2.1
      have r2 : rowAt wr w.heap.size 0 2 = some x.arr := by unfold rowAt; rw [hgw]; exact Pr.cut H.out.2.1
      have hbx := fun w => bs_M1P H.out.2.1 w
      cases d with
      | true =>
        have hres : withP ps x = L := by unfold withP; rw [← hfold]; rfl
        have E := Lib.hid (And.intro hres (And.intro hown (And.intro (H.out.2.2.1.trans (hb.mono H.out.2.2.1.size)) hm)))
        clear hres hown hb hfull hfold hgw hm
        go_wp2_with fail
        go_ret
        refine ⟨A5, c5, ?_, ?_, E.out.2.2.1⟩
        · rw [E.out.1, ← E.out.2.2.2]; rfl
        · rw [E.out.1, ← E.out.2.2.2]; exact own_mono E.out.2.1 H.out.2.2.1.size
      | false =>
        have hres : withP ps x = L ++ [x] := by unfold withP; rw [← hfold]; rfl
        obtain ⟨v8, w8, hrun8, hown8, hB8, -⟩ := pushP 22 hown H.out.2.1 (by omega) hb.size
        obtain ⟨A8, c8, rfl, -, -⟩ := own_shape hown8
        have E := Lib.hid (And.intro hres (And.intro hown8 (And.intro (H.out.2.2.1.trans ((hb.trans hB8).mono H.out.2.2.1.size)) hm)))
        clear hres hown hown8 hB8 hb hfull hfold hgw hm
        go_wp2_with fail
        go_ret
        have hl : (L ++ [x]).length = m + 1 := by have := E.out.2.2.2; simp [this]
        refine ⟨A8, c8, ?_, ?_, E.out.2.2.1⟩
        · rw [E.out.1, hl]; rfl
        · rw [E.out.1, hl]; exact own_mono E.out.2.1 H.out.2.2.1.size
end Go.Proofs.YtfnfgnhbnffagaaDoor

/-
The document's answer: members with one, and without one.
-/
namespace Go.Proofs.YtfnfgnhbnffagaaDoor
open Go.RowKit
set_option linter.unusedVariables false
set_option linter.unusedSimpArgs false
set_option maxRecDepth 100000
@[go_sem ↓] theorem ap_RM (ty : TypeId) (args : Array Value) : Builtin.append_ #[24, 24] ty args = apRow #[24, 24] ty args := rfl
/-- one more behind the others -/
theorem pushM {w : World} {B n : Nat} {v : Value} {qs : List Mb} (ty : TypeId) (h : w.ownsRow B 60 34 v n (flatC Mb.cells qs)) {x : Mb} (hx : x.ok) (hn : n ≤ 100000) (hB : B ≤ w.heap.size) :
    ∃ v' w', (apRow #[24, 24] ty #[v, .slice (some ⟨w.heap.size, 0, none⟩) 1 1]).run Tryd.prog (w.alloc (.cells x.arr 60)) = .ok v' w' ∧ w'.ownsRow B 60 34 v' (n + 1) (flatC Mb.cells (qs ++ [x])) ∧ Below B w w' ∧ Mv (fun k => v.ownBlock = some k) w w' := by
  obtain ⟨i0, hi, hz0, hz1, hz2⟩ := info_parts infoM
  obtain ⟨v', w', h1, h2, h3, -, h5⟩ := run_append_own_at (P := Tryd.prog) (w.alloc (.cells x.arr 60)) B 24 ty 60 i0 (.agg Mb.zero.arr) 34 48 Tryd.underlying24 hi hz0 hz1 hz2 (Mb.size Mb.zero_ok) (by decide) v n (flatC Mb.cells qs) (World.ownsRow.alloc h _) ⟨w.heap.size, 0, none⟩ 1 1 x.cells (by rw [Mb.len hx])
    (fun j u hu => by rw [Addr.add_mid, Nat.zero_add, World.cell?_alloc_at _ _ _ _ rfl]; simpa [Mb.arr] using hu) (cells_ones x) (by simp only [maxLen]; omega) (by omega) (by simp; omega)
  have hmv : Mv (fun k => v.ownBlock = some k) w w' := (Mv.alloc w _).trans (Mv.of_grown (fp := fun k => v.ownBlock = some k) h3 (fun k hk => hk)) (fun i _ c => c)
  refine ⟨v', w', h1, ?_, hmv.below hB (fun k hk => (own_lt h hk).1), hmv⟩
  rw [flatC_append, flatC_one]
  exact h2
/-- all but those of a name -/
def withoutM (ps : List Mb) (id : Int) : List Mb := ps.filter fun p => !(p.id == id)
def RowsM (L : List Mb) (w : World) (e : Ending) (w' : World) : Prop := ∃ A cap, e = .returned (.slice A L.length cap) ∧ w'.ownsRow w.heap.size 60 34 (.slice A L.length cap) L.length (flatC Mb.cells L) ∧ Below w.heap.size w w'
set_option maxHeartbeats 4000000 in
theorem without08_any (A : Option Addr) (n cap : Nat) (ps : List Mb) (id : Int) (w : World) (h : MS w A n ps) (hn : n ≤ 50000) : Calls Tryd.prog 60 #[.slice A n cap, .int .i64 id] w (RowsM (withoutM ps id) w) := by
  have hni : (n : Int) ≤ 50000 := by omega
  have H := Lib.hid h
  clear h
  go_enter Tryd.func60, Tryd.ntmps60
  go_wp2_with fail
  go_loopw [5, 7, 10] (fun t5 t7 t10 wr => ∃ k : Nat, k ≤ n ∧ t10 = .int .i64 k ∧ ∃ A5 m c5, t5 = .slice A5 m c5 ∧ wr.ownsRow w.heap.size 60 34 (.slice A5 m c5) m (flatC Mb.cells (withoutM (ps.take k) id)) ∧ m = (withoutM (ps.take k) id).length ∧ m ≤ k ∧ Below w.heap.size w wr) (fun _ _ t _ => n - (intOf t).toNat)
  case atStart => exact ⟨0, by omega, rfl, none, 0, 0, rfl, World.ownsRow_nil _ _ _ _, rfl, by omega, Below.refl _ _⟩
  case round =>
    obtain ⟨k, hk, rfl, A5, m, c5, rfl, hown, hm, hmk, hb⟩ := hrel
    have hk0 : (0 : Int) ≤ k := by omega
    by_cases hlt : k < n
    · have hk1 : (k : Int) < n := by omega
      obtain ⟨b, off, rfl, hbb, hrow⟩ := H.out.mem (by omega)
      have hr := (rowAt_below hb hbb _ _).trans (hrow k hlt)
      have hok := H.out.okAt hlt
      have htk := take_snoc (l := ps) (k := k) (by rw [H.out.len]; exact hlt)
      obtain ⟨x, hx⟩ : ∃ x, ps.getD k default = x := ⟨_, rfl⟩
      rw [hx] at hr hok htk
      have hwk : withoutM (ps.take (k + 1)) id = if (x.id == id) = true then withoutM (ps.take k) id else withoutM (ps.take k) id ++ [x] := by
        unfold withoutM
        rw [htk, List.filter_append]
        cases hc : x.id == id <;> simp [hc]
      have s1 := Mb.sz hok
      have o1 := x.ones
      have a0 := x.at0
      have ct := Mb.cut hok
      obtain ⟨w5, hw5⟩ : ∃ w5, wr.alloc (.cells x.arr 60) = w5 := ⟨_, rfl⟩
      have hb5 : Below wr.heap.size wr w5 := by rw [← hw5]; exact (Below.refl _ _).alloc (Nat.le_refl _) _
      have hg5 : w5.heap[wr.heap.size]? = some (.cells x.arr 60 (0, 0)) := by rw [← hw5]; exact heap_alloc_new wr _
      have r5 : rowAt w5 wr.heap.size 0 34 = some x.arr := by unfold rowAt; rw [hg5]; exact ct
      have c50 : w5.cell? ⟨wr.heap.size, 0, none⟩ = x.arr[0]? := by rw [cell_of_row hg5 a0, a0]
      rw [a0] at c50
      have hown5 := own_mv (fp := fun _ => False) hown (Mv.of_below hb5) (fun _ _ c => c)
      obtain ⟨v8, w8, hrun8, hown8, hB8, -⟩ := pushM 24 hown5 hok (by omega) (Nat.le_trans hb.size hb5.size)
      obtain ⟨A8, c8, rfl, -, -⟩ := own_shape hown8
      have hbs := fun w => bs_M1 hok w
      have E := Lib.hid (And.intro hwk (And.intro hown5 (And.intro hown8 (And.intro (hb.trans (hb5.mono hb.size)) (And.intro hB8 (And.intro hm hmk))))))
      clear hwk htk hx hown hown5 hown8 hb hb5 hB8 hm hrow hg5
      cases he : x.id == id with
      | true =>
        have HE := Lib.hid he
        go_wp2_with fail
        go_roundw
        case rel =>
          refine ⟨k + 1, by omega, by go_num, A5, m, c5, rfl, ?_, ?_, by omega, E.out.2.2.2.1⟩
          · rw [E.out.1, if_pos HE.out]; exact E.out.2.1
          · rw [E.out.1, if_pos HE.out]; exact E.out.2.2.2.2.2.1
        case measure => simp [intOf]; omega
      | false =>
        have HE := Lib.hid he
        go_wp2_with fail
        go_roundw
        case rel =>
          refine ⟨k + 1, by omega, by go_num, A8, m + 1, c8, rfl, ?_, ?_, by have := E.out.2.2.2.2.2.2; omega, E.out.2.2.2.1.trans E.out.2.2.2.2.1⟩
          · rw [E.out.1, if_neg (by rw [HE.out]; decide)]; exact E.out.2.2.1
          · rw [E.out.1, if_neg (by rw [HE.out]; decide), List.length_append, ← E.out.2.2.2.2.2.1]; rfl
        case measure => simp [intOf]; omega
    · have hkn : k = n := by omega
      have hfull : ps.take k = ps := List.take_of_length_le (by rw [H.out.len]; omega)
      rw [hfull] at hown hm
      subst hm
      have E := Lib.hid (And.intro hown hb)
      clear hown hb hfull
      go_wp2_with fail
      go_ret
      exact ⟨A5, c5, rfl, E.out.1, E.out.2⟩
def withAM (x : Mb) (s : List Mb × Bool) (p : Mb) : List Mb × Bool := if (!s.2 && decide (x.id < p.id)) = true then (s.1 ++ [x], true) else s
def withSM (x : Mb) (s : List Mb × Bool) (p : Mb) : List Mb × Bool := ((withAM x s p).1 ++ [p], (withAM x s p).2)
def withM (ps : List Mb) (x : Mb) : List Mb := if (ps.foldl (withSM x) ([], false)).2 = true then (ps.foldl (withSM x) ([], false)).1 else (ps.foldl (withSM x) ([], false)).1 ++ [x]
set_option maxHeartbeats 8000000 in
theorem with08_any (A : Option Addr) (n cap : Nat) (ps : List Mb) (x : Mb) (hx : x.ok) (w : World) (h : MS w A n ps) (hn : n ≤ 10000) : Calls Tryd.prog 61 #[.slice A n cap, .agg x.arr] w (RowsM (withM ps x) w) := by
  have hni : (n : Int) ≤ 10000 := by omega
  have sx := Mb.sz hx
  have ox := x.ones
  have ax := x.at0
  obtain ⟨w1, hw1⟩ : ∃ w1, w.alloc (.cells x.arr 60) = w1 := ⟨_, rfl⟩
  have hb1 : Below w.heap.size w w1 := by rw [← hw1]; exact (Below.refl _ _).alloc (Nat.le_refl _) _
  have hg1 : w1.heap[w.heap.size]? = some (.cells x.arr 60 (0, 0)) := by rw [← hw1]; exact heap_alloc_new w _
  have hl1 : w.heap.size < w1.heap.size := (Array.getElem?_eq_some_iff.1 hg1).1
  have H := Lib.hid (And.intro h (And.intro hx (And.intro hb1 (And.intro hg1 hl1))))
  clear h hx hb1 hg1 hl1
  go_enter Tryd.func61, Tryd.ntmps61
  go_wp2_with fail
  clear hw1
  go_loopw [5, 6, 8, 11] (fun t5 t6 t8 t11 wr => ∃ k : Nat, k ≤ n ∧ t11 = .int .i64 k ∧ ∃ A5 m c5 L d, t5 = .slice A5 m c5 ∧ t6 = .bool d ∧ (L, d) = (ps.take k).foldl (withSM x) ([], false) ∧ wr.ownsRow w1.heap.size 60 34 (.slice A5 m c5) m (flatC Mb.cells L) ∧ m = L.length ∧ m ≤ 2 * k ∧ Below w1.heap.size w1 wr) (fun _ _ _ t _ => n - (intOf t).toNat)
  case atStart => exact ⟨0, by omega, rfl, none, 0, 0, [], false, rfl, rfl, rfl, World.ownsRow_nil _ _ _ _, rfl, by omega, Below.refl _ _⟩
  case round =>
    obtain ⟨k, hk, rfl, A5, m, c5, L, d, rfl, rfl, hfold, hown, hm, hmk, hb⟩ := hrel
    have hk0 : (0 : Int) ≤ k := by omega
    by_cases hlt : k < n
    · have hk1 : (k : Int) < n := by omega
      obtain ⟨b, off, rfl, hbb, hrow⟩ := H.out.1.mem (by omega)
      have hr := (rowAt_below (H.out.2.2.1.trans (hb.mono H.out.2.2.1.size)) hbb _ _).trans (hrow k hlt)
      have hok := H.out.1.okAt hlt
      have htk := take_snoc (l := ps) (k := k) (by rw [H.out.1.len]; exact hlt)
      obtain ⟨y, hy⟩ : ∃ y, ps.getD k default = y := ⟨_, rfl⟩
      rw [hy] at hr hok htk
      have hfk : (ps.take (k + 1)).foldl (withSM x) ([], false) = withSM x (L, d) y := by rw [htk, List.foldl_append, ← hfold]; rfl
      have sy := Mb.sz hok
      have oy := y.ones
      have ay := y.at0
      obtain ⟨w5, hw5⟩ : ∃ w5, wr.alloc (.cells y.arr 60) = w5 := ⟨_, rfl⟩
      have hb5 : Below wr.heap.size wr w5 := by rw [← hw5]; exact (Below.refl _ _).alloc (Nat.le_refl _) _
      have hB5 := hb.trans (hb5.mono hb.size)
      have hg5 : w5.heap[wr.heap.size]? = some (.cells y.arr 60 (0, 0)) := by rw [← hw5]; exact heap_alloc_new wr _
      have hl5 : wr.heap.size < w5.heap.size := (Array.getElem?_eq_some_iff.1 hg5).1
      have hg50 : w5.heap[w.heap.size]? = some (.cells x.arr 60 (0, 0)) := (hB5.block _ H.out.2.2.2.2).trans H.out.2.2.2.1
      have hown5 := own_mv (fp := fun _ => False) hown (Mv.of_below hb5) (fun _ _ c => c)
      have K8 : ∀ w8, Mv (fun k => (Value.slice A5 m c5).ownBlock = some k) w5 w8 → w8.heap[wr.heap.size]? = some (.cells y.arr 60 (0, 0)) ∧ w8.heap[w.heap.size]? = some (.cells x.arr 60 (0, 0)) := fun w8 hm8 =>
        ⟨(hm8.block _ hl5 (fun e => by have := (own_lt hown e).2; omega)).trans hg5, (hm8.block _ (Nat.lt_of_lt_of_le H.out.2.2.2.2 hB5.size) (fun e => by have := (own_lt hown e).1; have := H.out.2.2.2.2; omega)).trans hg50⟩
      have R : ∀ w8 : World, w8.heap[wr.heap.size]? = some (.cells y.arr 60 (0, 0)) ∧ w8.heap[w.heap.size]? = some (.cells x.arr 60 (0, 0)) → rowAt w8 wr.heap.size 0 34 = some y.arr ∧ rowAt w8 w.heap.size 0 34 = some x.arr ∧ w8.cell? ⟨wr.heap.size, 0, none⟩ = some (.int .i64 y.id) ∧ w8.cell? ⟨w.heap.size, 0, none⟩ = some (.int .i64 x.id) := fun w8 hh =>
        ⟨by unfold rowAt; rw [hh.1]; exact Mb.cut hok, by unfold rowAt; rw [hh.2]; exact Mb.cut H.out.2.1, by rw [cell_of_row hh.1 ay], by rw [cell_of_row hh.2 ax]⟩
      obtain ⟨r1, r2, r3, r4⟩ := R w5 ⟨hg5, hg50⟩
      have hbx := fun w => bs_M1 H.out.2.1 w
      have hby := fun w => bs_M1 hok w
      have E := Lib.hid (And.intro hfk (And.intro hown5 (And.intro hB5 (And.intro K8 (And.intro R (And.intro hm (And.intro hmk (And.intro hok hb.size))))))))
      clear hfk htk hy hown hown5 hb hb5 hB5 hg5 hg50 hl5 K8 R hm hrow hfold hok
      cases d with
      | true =>
        obtain ⟨v9, w9, hrun9, hown9, hB9, -⟩ := pushM 24 E.out.2.1 E.out.2.2.2.2.2.2.2.1 (by have := E.out.2.2.2.2.2.2.1; omega) E.out.2.2.1.size
        obtain ⟨A9, c9, rfl, -, -⟩ := own_shape hown9
        have F := Lib.hid (And.intro hown9 (E.out.2.2.1.trans hB9))
        have hstep : withSM x (L, true) y = ((L ++ [y]), true) := by
          simp [withSM, withAM]
        have HS := Lib.hid hstep
        clear hstep hown9 hB9
        go_wp2_with fail
        go_roundw
        case rel =>
          refine ⟨k + 1, by omega, by go_num, A9, m + 1, c9, (L ++ [y]), true, rfl, rfl, ?_, F.out.1, ?_, by have := E.out.2.2.2.2.2.2.1; omega, F.out.2⟩
          · rw [E.out.1, HS.out]
          · have := E.out.2.2.2.2.2.1; simp [this]
        case measure => simp [intOf]; omega
      | false =>
        by_cases hgt : x.id < y.id
        · have hg : decide (x.id < y.id) = true := decide_eq_true hgt
          obtain ⟨v8, w8, hrun8, hown8, hB8, hm8⟩ := pushM 24 E.out.2.1 H.out.2.1 (by have := E.out.2.2.2.2.2.2.1; omega) E.out.2.2.1.size
          obtain ⟨A8, c8, rfl, -, -⟩ := own_shape hown8
          obtain ⟨p1, p2, p3, p4⟩ := E.out.2.2.2.2.1 _ (E.out.2.2.2.1 _ hm8)
          obtain ⟨v9, w9, hrun9, hown9, hB9, -⟩ := pushM 24 hown8 E.out.2.2.2.2.2.2.2.1 (by have := E.out.2.2.2.2.2.2.1; omega) (Nat.le_trans E.out.2.2.1.size hB8.size)
          obtain ⟨A9, c9, rfl, -, -⟩ := own_shape hown9
          have F := Lib.hid (And.intro hown9 ((E.out.2.2.1.trans hB8).trans hB9))
          have hstep : withSM x (L, false) y = (((L ++ [x]) ++ [y]), true) := by
            simp [withSM, withAM, hg]
          have HS := Lib.hid hstep
          clear hstep hown8 hB8 hm8 hown9 hB9
          go_wp2_with fail
          go_roundw
          case rel =>
            refine ⟨k + 1, by omega, by go_num, A9, m + 1 + 1, c9, ((L ++ [x]) ++ [y]), true, rfl, rfl, ?_, F.out.1, ?_, by have := E.out.2.2.2.2.2.2.1; omega, F.out.2⟩
            · rw [E.out.1, HS.out]
            · have := E.out.2.2.2.2.2.1; simp [this]
          case measure => simp [intOf]; omega
        · have hg : decide (x.id < y.id) = false := decide_eq_false hgt
          obtain ⟨v9, w9, hrun9, hown9, hB9, -⟩ := pushM 24 E.out.2.1 E.out.2.2.2.2.2.2.2.1 (by have := E.out.2.2.2.2.2.2.1; omega) E.out.2.2.1.size
          obtain ⟨A9, c9, rfl, -, -⟩ := own_shape hown9
          have F := Lib.hid (And.intro hown9 (E.out.2.2.1.trans hB9))
          have hstep : withSM x (L, false) y = ((L ++ [y]), false) := by
            simp [withSM, withAM, hg]
          have HS := Lib.hid hstep
          clear hstep hown9 hB9
          go_wp2_with fail
          go_roundw
          case rel =>
            refine ⟨k + 1, by omega, by go_num, A9, m + 1, c9, (L ++ [y]), false, rfl, rfl, ?_, F.out.1, ?_, by have := E.out.2.2.2.2.2.2.1; omega, F.out.2⟩
            · rw [E.out.1, HS.out]
            · have := E.out.2.2.2.2.2.1; simp [this]
          case measure => simp [intOf]; omega
    · have hkn : k = n := by omega
      have hfull : ps.take k = ps := List.take_of_length_le (by rw [H.out.1.len]; omega)
      rw [hfull] at hfold
      have hl0 : w.heap.size < wr.heap.size := Nat.lt_of_lt_of_le H.out.2.2.2.2 hb.size
      have hgw : wr.heap[w.heap.size]? = some (.cells x.arr 60 (0, 0)) := (hb.block _ H.out.2.2.2.2).trans H.out.2.2.2.1
      have r2 : rowAt wr w.heap.size 0 34 = some x.arr := by unfold rowAt; rw [hgw]; exact Mb.cut H.out.2.1
      have hbx := fun w => bs_M1 H.out.2.1 w
      cases d with
      | true =>
        have hres : withM ps x = L := by unfold withM; rw [← hfold]; rfl
        have E := Lib.hid (And.intro hres (And.intro hown (And.intro (H.out.2.2.1.trans (hb.mono H.out.2.2.1.size)) hm)))
        clear hres hown hb hfull hfold hgw hm
        go_wp2_with fail
        go_ret
        refine ⟨A5, c5, ?_, ?_, E.out.2.2.1⟩
        · rw [E.out.1, ← E.out.2.2.2]; rfl
        · rw [E.out.1, ← E.out.2.2.2]; exact own_mono E.out.2.1 H.out.2.2.1.size
      | false =>
        have hres : withM ps x = L ++ [x] := by unfold withM; rw [← hfold]; rfl
        obtain ⟨v8, w8, hrun8, hown8, hB8, -⟩ := pushM 24 hown H.out.2.1 (by omega) hb.size
        obtain ⟨A8, c8, rfl, -, -⟩ := own_shape hown8
        have E := Lib.hid (And.intro hres (And.intro hown8 (And.intro (H.out.2.2.1.trans ((hb.trans hB8).mono H.out.2.2.1.size)) hm)))
        clear hres hown hown8 hB8 hb hfull hfold hgw hm
        go_wp2_with fail
        go_ret
        have hl : (L ++ [x]).length = m + 1 := by have := E.out.2.2.2; simp [this]
        refine ⟨A8, c8, ?_, ?_, E.out.2.2.1⟩
        · rw [E.out.1, hl]; rfl
        · rw [E.out.1, hl]; exact own_mono E.out.2.1 H.out.2.2.1.size
end Go.Proofs.YtfnfgnhbnffagaaDoor
