/-
What the other operations do.
-/
import Derived.Test.YthaeofiplhbggaaDoorPut
namespace Go.Proofs.YthaeofiplhbggaaDoor
open Go.RowKit
set_option linter.unusedVariables false
set_option linter.unusedSimpArgs false
set_option maxRecDepth 100000
set_option maxHeartbeats 4000000 in
theorem does_put (B O : Nat) (vp vr vm : Value) (ps : List Pr) (rs : List Rp) (ep : Int) (ms : List Mb) (op : Opn) (w : World) (h : BoxS B O w vp vr vm ps rs ep ms) (hB : B ≤ w.heap.size) (hp : ps.length ≤ 100000) (ho : op.ok) (hk : op.kind = 2) :
    Calls Tryd.prog 19 #[.pointer (some ⟨O, 0, none⟩), .agg op.arr] w (DoesEnd B O vp vr vm ps rs ep ms (fun code out ps' ep' ms' => out = [] ∧ ep' = ep ∧ ms' = ms ∧ ((code = 0 ∧ ps' = putP ps op.key op.val ∧ (pairB ps op.key = true ∨ ps.length < 256)) ∨ (code = 11 ∧ ps' = ps ∧ pairB ps op.key = false ∧ 256 ≤ ps.length))) w) := by
  have o0 := op.at0
  have o1 := op.at1
  have o2 := op.at2
  have o3 := op.at3
  obtain ⟨Ap, cp, hvp, sp, -⟩ := own_shape h.s.p
  obtain ⟨Ar, cr, hvr, sr, -⟩ := own_shape h.s.r
  obtain ⟨Am, cm, hvm, sm, -⟩ := own_shape h.s.m
  subst hvp hvr hvm
  obtain ⟨_, _, e1, P⟩ := PS_of_own h.s.p h.s.okp (by omega)
  cases e1
  have hrow := h.row
  have hOl := h.lt
  obtain ⟨np, hnp⟩ : ∃ n, ps.length = n := ⟨_, rfl⟩
  have hn1 : (np : Int) ≤ 100000 := by omega
  rw [hnp] at h P sp hrow ⊢
  have hBw := (Below.refl w.heap.size w).alloc (Nat.le_refl _) (.cells op.arr 37)
  have HN := Lib.hid (And.intro hnp (And.intro h (And.intro P hBw)))
  have hkl : (op.key.size : Int) ≤ 140737488355328 := by have := ho.key; omega
  rw [hk] at o0
  obtain ⟨w2, hw2⟩ : ∃ w2, w.alloc (.cells op.arr 37) = w2 := ⟨_, rfl⟩
  have hs2 : w2.heap.size = w.heap.size + 1 := by rw [← hw2]; simp
  have e0 : ∀ w', Below w2.heap.size w2 w' → rowAt w' O 0 4 = some #[.slice Ap np cp, .slice Ar rs.length cr, .int .i64 ep, .slice Am ms.length cm] := fun w' hb => by
    rw [rowAt_below hb (by omega), ← hw2, rowAt_alloc_past _ _ _ _ _ hOl]; exact hrow
  have e1 : ∀ w', Below w2.heap.size w2 w' → w'.cell? ⟨w.heap.size, 1, none⟩ = some (.string op.key) := fun w' hb => by
    rw [hb.cell (p := ⟨w.heap.size, 1, none⟩) (by simp; omega), ← hw2, World.cell?_alloc_at _ _ _ _ rfl]; exact o1
  have e2 : ∀ w', Below w2.heap.size w2 w' → w'.cell? ⟨w.heap.size, 0, none⟩ = some (.int .i64 2) := fun w' hb => by
    rw [hb.cell (p := ⟨w.heap.size, 0, none⟩) (by simp; omega), ← hw2, World.cell?_alloc_at _ _ _ _ rfl]; exact o0
  have e3 : ∀ w', Below w2.heap.size w2 w' → w'.cell? ⟨w.heap.size, 2, none⟩ = some (.string op.val) := fun w' hb => by
    rw [hb.cell (p := ⟨w.heap.size, 2, none⟩) (by simp; omega), ← hw2, World.cell?_alloc_at _ _ _ _ rfl]; exact o2
  have e4 : ∀ w', Below w2.heap.size w2 w' → w'.cell? ⟨w.heap.size, 3, none⟩ = some (.string op.old) := fun w' hb => by
    rw [hb.cell (p := ⟨w.heap.size, 3, none⟩) (by simp; omega), ← hw2, World.cell?_alloc_at _ _ _ _ rfl]; exact o3
  have hpr : ∀ w', Below w2.heap.size w2 w' → Calls Tryd.prog 22 #[.agg #[.slice Ap np cp, .slice Ar rs.length cr, .int .i64 ep, .slice Am ms.length cm], .string op.key] w' fun e w3 => e = .returned (.tuple #[.int .i64 (pairI ps op.key), .bool (pairB ps op.key)]) ∧ Below w2.heap.size w2 w3 := fun w' hb => by
    refine (pair_any _ _ Ap np cp ep ps op.key w' (P.below (hBw.trans ?_))).mono ?_
    · rw [hw2]; exact hb.mono (by omega)
    · rintro e w3 ⟨rfl, hb3⟩
      exact ⟨rfl, hb.trans (hb3.mono hb.size)⟩
  have hBw2 : Below w.heap.size w w2 := by rw [← hw2]; exact hBw
  have bd : Below w2.heap.size w2 w2.drew := (Below.refl _ _).drew
  generalize pairI ps op.key = pi at hpr
  generalize hPB : pairB ps op.key = pb at hpr ⊢
  have HPB := Lib.hid hPB
  clear hPB
  have HB := Lib.hid (And.intro hBw2 (And.intro hB ho))
  clear hnp h P sp sr sm hB hp ho hBw hrow o0 o1 o2 o3 hBw2
  go_enter Tryd.func19, Tryd.ntmps19
  go_wp2_with fail
  clear hw2
  go_region_held3 (fun w' => rowAt w' O 0 4 = some #[.slice Ap np cp, .slice Ar rs.length cr, .int .i64 ep, .slice Am ms.length cm] ∧ w'.cell? ⟨w.heap.size, 1, none⟩ = some (.string op.key) ∧ Below w2.heap.size w2 w') (exact ⟨e0 _ (by assumption), e1 _ (by assumption), by assumption⟩) (first | (go_at_call 22; refine (hpr _ (by assumption)).mono ?_; rintro e w3 ⟨rfl, hb3⟩))
  have k0 := e2 _ hb3
  have k1 := e1 _ hb3
  have k2 := e3 _ hb3
  have hbw := HB.out.1.trans (hb3.mono HB.out.1.size)
  have hbx := HN.out.2.1.below hbw
  have hput := put_any B O _ _ _ ps rs ep ms op.key op.val w3 hbx (Nat.le_trans HB.out.2.1 hbw.size) HB.out.2.2.key HB.out.2.2.val (by have := HN.out.1; omega)
  have HX := Lib.hid hbw
  clear hb3 hbw hbx
  go_wp2_with fail
  refine hput.mono ?_
  rintro e w4 ⟨code, vp', ps', rfl, bx4, mv4, hc⟩
  have E := Lib.hid (And.intro bx4 (And.intro mv4 hc))
  clear hput bx4 mv4 hc
  go_wp2_with fail
  go_ret2
  exact ⟨code, _, [], vp', _, ps', ep, ms, rfl, E.out.1, ot_nil _ _, by simp, (Mv.of_below HX.out).trans E.out.2.1 (fun _ _ c => c), rfl, rfl, rfl, by rw [← HPB.out, ← HN.out.1]; exact E.out.2.2⟩
set_option maxHeartbeats 4000000 in
theorem does_other (B O : Nat) (vp vr vm : Value) (ps : List Pr) (rs : List Rp) (ep : Int) (ms : List Mb) (op : Opn) (w : World) (h : BoxS B O w vp vr vm ps rs ep ms) (hB : B ≤ w.heap.size) (hp : ps.length ≤ 100000) (ho : op.ok) (hk : op.kind = 4) (hpb : pairB ps op.key = true) (hne : ((ps.getD (pairI ps op.key) default).val.toList == op.old.toList) = false) :
    Calls Tryd.prog 19 #[.pointer (some ⟨O, 0, none⟩), .agg op.arr] w (DoesEnd B O vp vr vm ps rs ep ms (fun code out ps' ep' ms' => code = 9 ∧ out = [(ps.getD (pairI ps op.key) default).val] ∧ ps' = ps ∧ ep' = ep ∧ ms' = ms) w) := by
  have o0 := op.at0
  have o1 := op.at1
  have o2 := op.at2
  have o3 := op.at3
  obtain ⟨Ap, cp, hvp, sp, -⟩ := own_shape h.s.p
  obtain ⟨Ar, cr, hvr, sr, -⟩ := own_shape h.s.r
  obtain ⟨Am, cm, hvm, sm, -⟩ := own_shape h.s.m
  subst hvp hvr hvm
  obtain ⟨_, _, e1, P⟩ := PS_of_own h.s.p h.s.okp (by omega)
  cases e1
  have hrow := h.row
  have hOl := h.lt
  obtain ⟨np, hnp⟩ : ∃ n, ps.length = n := ⟨_, rfl⟩
  have hn1 : (np : Int) ≤ 100000 := by omega
  rw [hnp] at h P sp hrow ⊢
  have hBw := (Below.refl w.heap.size w).alloc (Nat.le_refl _) (.cells op.arr 37)
  have HN := Lib.hid (And.intro hnp (And.intro h (And.intro P hBw)))
  have hkl : (op.key.size : Int) ≤ 140737488355328 := by have := ho.key; omega
  rw [hk] at o0
  obtain ⟨w2, hw2⟩ : ∃ w2, w.alloc (.cells op.arr 37) = w2 := ⟨_, rfl⟩
  have hs2 : w2.heap.size = w.heap.size + 1 := by rw [← hw2]; simp
  have e0 : ∀ w', Below w2.heap.size w2 w' → rowAt w' O 0 4 = some #[.slice Ap np cp, .slice Ar rs.length cr, .int .i64 ep, .slice Am ms.length cm] := fun w' hb => by
    rw [rowAt_below hb (by omega), ← hw2, rowAt_alloc_past _ _ _ _ _ hOl]; exact hrow
  have e1 : ∀ w', Below w2.heap.size w2 w' → w'.cell? ⟨w.heap.size, 1, none⟩ = some (.string op.key) := fun w' hb => by
    rw [hb.cell (p := ⟨w.heap.size, 1, none⟩) (by simp; omega), ← hw2, World.cell?_alloc_at _ _ _ _ rfl]; exact o1
  have e2 : ∀ w', Below w2.heap.size w2 w' → w'.cell? ⟨w.heap.size, 0, none⟩ = some (.int .i64 4) := fun w' hb => by
    rw [hb.cell (p := ⟨w.heap.size, 0, none⟩) (by simp; omega), ← hw2, World.cell?_alloc_at _ _ _ _ rfl]; exact o0
  have e3 : ∀ w', Below w2.heap.size w2 w' → w'.cell? ⟨w.heap.size, 2, none⟩ = some (.string op.val) := fun w' hb => by
    rw [hb.cell (p := ⟨w.heap.size, 2, none⟩) (by simp; omega), ← hw2, World.cell?_alloc_at _ _ _ _ rfl]; exact o2
  have e4 : ∀ w', Below w2.heap.size w2 w' → w'.cell? ⟨w.heap.size, 3, none⟩ = some (.string op.old) := fun w' hb => by
    rw [hb.cell (p := ⟨w.heap.size, 3, none⟩) (by simp; omega), ← hw2, World.cell?_alloc_at _ _ _ _ rfl]; exact o3
  have hpr : ∀ w', Below w2.heap.size w2 w' → Calls Tryd.prog 22 #[.agg #[.slice Ap np cp, .slice Ar rs.length cr, .int .i64 ep, .slice Am ms.length cm], .string op.key] w' fun e w3 => e = .returned (.tuple #[.int .i64 (pairI ps op.key), .bool (pairB ps op.key)]) ∧ Below w2.heap.size w2 w3 := fun w' hb => by
    refine (pair_any _ _ Ap np cp ep ps op.key w' (P.below (hBw.trans ?_))).mono ?_
    · rw [hw2]; exact hb.mono (by omega)
    · rintro e w3 ⟨rfl, hb3⟩
      exact ⟨rfl, hb.trans (hb3.mono hb.size)⟩
  have hBw2 : Below w.heap.size w w2 := by rw [← hw2]; exact hBw
  have bd : Below w2.heap.size w2 w2.drew := (Below.refl _ _).drew
  have hpi := pairB_lt hpb
  rw [hpb] at hpr
  rw [HN.out.1] at hpi
  generalize hI : pairI ps op.key = pi at hpr hpi hne
  have HI := Lib.hid hI
  clear hI hpb
  have HB := Lib.hid (And.intro hBw2 (And.intro hB ho))
  clear hnp h P sp sr sm hB hp ho hBw hrow o0 o1 o2 o3 hBw2
  go_enter Tryd.func19, Tryd.ntmps19
  go_wp2_with fail
  clear hw2
  go_region_held3 (fun w' => rowAt w' O 0 4 = some #[.slice Ap np cp, .slice Ar rs.length cr, .int .i64 ep, .slice Am ms.length cm] ∧ w'.cell? ⟨w.heap.size, 1, none⟩ = some (.string op.key) ∧ Below w2.heap.size w2 w') (exact ⟨e0 _ (by assumption), e1 _ (by assumption), by assumption⟩) (first | (go_at_call 22; refine (hpr _ (by assumption)).mono ?_; rintro e w3 ⟨rfl, hb3⟩))
  have k0 := e2 _ hb3
  have k1 := e1 _ hb3
  have k4 := e4 _ hb3
  have hbw := HB.out.1.trans (hb3.mono HB.out.1.size)
  have hbx := HN.out.2.1.below hbw
  obtain ⟨b, off, rfl, hbb, hel⟩ := HN.out.2.2.1.mem (by omega)
  have c1 := cell_of_rowAt ((rowAt_below hbw hbb _ _).trans (hel pi hpi)) 1 _ (Pr.at1 _)
  generalize hv : (ps.getD pi default).val = pv at c1 hne
  have hi1 : (pi : Int) < np := by omega
  have hi0 : ¬ (pi : Int) < 0 := by omega
  have c0 : w3.cell? ⟨O, 0, none⟩ = some (.slice (some ⟨b, off, none⟩) np cp) := cell_of_rowAt (e0 _ hb3) 0 _ rfl
  have HX := Lib.hid (And.intro hbw (And.intro hbx hv))
  clear hb3 hbw hbx hel hv
  go_wp2_with fail
  go_quiet (fail)
  have bq := below_drewN (Below.refl w3.heap.size w3) nq
  go_wp2_with fail
  have hbO : O < w3.heap.size := HX.out.2.1.lt
  have hbb3 : b < w3.heap.size := Nat.lt_of_lt_of_le hbb HX.out.1.size
  go_region
  go_wp2_with fail
  go_ret2
  have hbz : Below w3.heap.size w3 ((w3.drewN (nq + 1)).alloc (.cells #[.string pv] 9)) := (below_drewN (Below.refl w3.heap.size w3) (nq + 1)).alloc (Nat.le_refl _) _
  have hO : OT ((w3.drewN (nq + 1)).alloc (.cells #[.string pv] 9)) w.heap.size (.slice (some ⟨w3.heap.size, 0, none⟩) 1 1) [pv] :=
    own_of_block HX.out.1.size (heap_alloc_new (w3.drewN (nq + 1)) _) (Nat.le_refl _) (by decide) rfl rfl
  exact ⟨9, _, [pv], _, _, ps, ep, ms, rfl, HX.out.2.1.below hbz, hO, by simp, Mv.of_below (HX.out.1.trans (hbz.mono HX.out.1.size)), rfl, by rw [HX.out.2.2], rfl, rfl, rfl⟩
end Go.Proofs.YthaeofiplhbggaaDoor
