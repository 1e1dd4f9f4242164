/-
What the rest of the operations do.
-/
import Derived.Test.YtfnfgnhbnffagaaDoorZDo
namespace Go.Proofs.YtfnfgnhbnffagaaDoor
open Go.RowKit
set_option linter.unusedVariables false
set_option linter.unusedSimpArgs false
set_option maxRecDepth 100000
theorem BoxS.setVal {B O g np cp i : Nat} {w : World} {vr vm : Value} {ps : List Pr} {rs : List Rp} {ep : Int} {ms : List Mb} {val : ByteArray} (h : BoxS B O w (.slice (some ⟨g, 0, none⟩) np cp) vr vm ps rs ep ms) (hl : ps.length = np) (hi : i < np) (hv : val.size ≤ 140737488355328) :
    BoxS B O (w.setCell ⟨g, i * 2 + 1, none⟩ (.string val)) (.slice (some ⟨g, 0, none⟩) np cp) vr vm (ps.set i ⟨(ps.getD i default).key, val⟩) rs ep ms ∧ Mv (fun k => (Value.slice (some ⟨g, 0, none⟩) np cp).ownBlock = some k) w (w.setCell ⟨g, i * 2 + 1, none⟩ (.string val)) := by
  have hg : (Value.slice (some ⟨g, 0, none⟩) np cp).ownBlock = some g := rfl
  obtain ⟨-, -, o1⟩ := own_setVal val (by have := h.s.p; rw [hl] at this; exact this) hl hi
  have hgO : g ≠ O := (h.s.ap g hg).1
  have hm : Mv (fun k => (Value.slice (some ⟨g, 0, none⟩) np cp).ownBlock = some k) w (w.setCell ⟨g, i * 2 + 1, none⟩ (.string val)) := Mv.setCell _ _ _ hg
  refine ⟨⟨?_, h.s.newP h.lt (fun y hy => ?_) ?_ hm (.inl rfl)⟩, hm⟩
  · rw [heap_setCell_other _ _ _ _ (by simpa using fun c => hgO c.symm)]; exact h.o
  · rcases List.mem_or_eq_of_mem_set hy with hy | rfl
    · exact h.s.okp y hy
    · exact ⟨(h.s.okp (ps.getD i default) (by rw [List.getD_eq_getElem?_getD, List.getElem?_eq_getElem (by omega)]; exact List.getElem_mem _)).k, hv⟩
  · rw [List.length_set, hl]; exact o1
set_option maxHeartbeats 4000000 in
theorem does_none1 (B O : Nat) (vp vr vm : Value) (ps : List Pr) (rs : List Rp) (ep : Int) (ms : List Mb) (op : Opn) (w : World) (h : BoxS B O w vp vr vm ps rs ep ms) (hB : B ≤ w.heap.size) (hp : ps.length ≤ 100000) (ho : op.ok) (hk : op.kind = 1) (hpb : pairB ps op.key = false) :
    Calls Tryd.prog 26 #[.pointer (some ⟨O, 0, none⟩), .agg op.arr] w (DoesEnd B O vp vr vm ps rs ep ms (fun code out ps' ep' ms' => code = 7 ∧ out = [] ∧ ps' = ps ∧ ep' = ep ∧ ms' = ms) w) := by
  have o0 := op.at0
  have o1 := op.at1
  have o2 := op.at2
  have o3 := op.at3
  obtain ⟨Ap, cp, hvp, sp, -⟩ := own_shape h.s.p
  obtain ⟨Ar, cr, hvr, sr, -⟩ := own_shape h.s.r
  obtain ⟨Am, cm, hvm, sm, -⟩ := own_shape h.s.m
  subst hvp hvr hvm
  obtain ⟨_, _, e1, P⟩ := PS_of_own h.s.p h.s.okp (by omega)
  cases e1
  have hrow := h.row
  have hOl := h.lt
  obtain ⟨np, hnp⟩ : ∃ n, ps.length = n := ⟨_, rfl⟩
  have hn1 : (np : Int) ≤ 100000 := by omega
  rw [hnp] at h P sp hrow ⊢
  have hBw := (Below.refl w.heap.size w).alloc (Nat.le_refl _) (.cells op.arr 44)
  have HN := Lib.hid (And.intro hnp (And.intro h (And.intro P hBw)))
  have hkl : (op.key.size : Int) ≤ 140737488355328 := by have := ho.key; omega
  rw [hk] at o0
  obtain ⟨w2, hw2⟩ : ∃ w2, w.alloc (.cells op.arr 44) = w2 := ⟨_, rfl⟩
  have hs2 : w2.heap.size = w.heap.size + 1 := by rw [← hw2]; simp
  have e0 : ∀ w', Below w2.heap.size w2 w' → rowAt w' O 0 4 = some #[.slice Ap np cp, .slice Ar rs.length cr, .int .i64 ep, .slice Am ms.length cm] := fun w' hb => by
    rw [rowAt_below hb (by omega), ← hw2, rowAt_alloc_past _ _ _ _ _ hOl]; exact hrow
  have e1 : ∀ w', Below w2.heap.size w2 w' → w'.cell? ⟨w.heap.size, 1, none⟩ = some (.string op.key) := fun w' hb => by
    rw [hb.cell (p := ⟨w.heap.size, 1, none⟩) (by simp; omega), ← hw2, World.cell?_alloc_at _ _ _ _ rfl]; exact o1
  have e2 : ∀ w', Below w2.heap.size w2 w' → w'.cell? ⟨w.heap.size, 0, none⟩ = some (.int .i64 1) := fun w' hb => by
    rw [hb.cell (p := ⟨w.heap.size, 0, none⟩) (by simp; omega), ← hw2, World.cell?_alloc_at _ _ _ _ rfl]; exact o0
  have e3 : ∀ w', Below w2.heap.size w2 w' → w'.cell? ⟨w.heap.size, 2, none⟩ = some (.string op.val) := fun w' hb => by
    rw [hb.cell (p := ⟨w.heap.size, 2, none⟩) (by simp; omega), ← hw2, World.cell?_alloc_at _ _ _ _ rfl]; exact o2
  have e4 : ∀ w', Below w2.heap.size w2 w' → w'.cell? ⟨w.heap.size, 3, none⟩ = some (.string op.old) := fun w' hb => by
    rw [hb.cell (p := ⟨w.heap.size, 3, none⟩) (by simp; omega), ← hw2, World.cell?_alloc_at _ _ _ _ rfl]; exact o3
  have hpr : ∀ w', Below w2.heap.size w2 w' → Calls Tryd.prog 46 #[.agg #[.slice Ap np cp, .slice Ar rs.length cr, .int .i64 ep, .slice Am ms.length cm], .string op.key] w' fun e w3 => e = .returned (.tuple #[.int .i64 (pairI ps op.key), .bool (pairB ps op.key)]) ∧ Below w2.heap.size w2 w3 := fun w' hb => by
    refine (pair_any _ _ Ap np cp ep ps op.key w' (P.below (hBw.trans ?_))).mono ?_
    · rw [hw2]; exact hb.mono (by omega)
    · rintro e w3 ⟨rfl, hb3⟩
      exact ⟨rfl, hb.trans (hb3.mono hb.size)⟩
  have hBw2 : Below w.heap.size w w2 := by rw [← hw2]; exact hBw
  have bd : Below w2.heap.size w2 w2.drew := (Below.refl _ _).drew
  rw [hpb] at hpr
  generalize pairI ps op.key = pi at hpr
  clear hpb
  have HB := Lib.hid (And.intro hBw2 (And.intro hB ho))
  clear hnp h P sp sr sm hB hp ho hBw hrow o0 o1 o2 o3 hBw2
  go_enter Tryd.func26, Tryd.ntmps26
  go_wp2_with fail
  clear hw2
  go_region_held3 (fun w' => rowAt w' O 0 4 = some #[.slice Ap np cp, .slice Ar rs.length cr, .int .i64 ep, .slice Am ms.length cm] ∧ w'.cell? ⟨w.heap.size, 1, none⟩ = some (.string op.key) ∧ Below w2.heap.size w2 w') (exact ⟨e0 _ (by assumption), e1 _ (by assumption), by assumption⟩) (first | (go_at_call 46; refine (hpr _ (by assumption)).mono ?_; rintro e w3 ⟨rfl, hb3⟩))
  have k0 := e2 _ hb3
  have hbw := HB.out.1.trans (hb3.mono HB.out.1.size)
  have HX := Lib.hid (And.intro hbw (HN.out.2.1.below hbw))
  clear hb3 hbw
  go_wp2_with fail
  go_ret2
  exact ⟨7, _, [], _, _, ps, ep, ms, rfl, HX.out.2, ot_nil _ _, by simp, Mv.of_below HX.out.1, rfl, rfl, rfl, rfl, rfl⟩
set_option maxHeartbeats 4000000 in
theorem does_none3 (B O : Nat) (vp vr vm : Value) (ps : List Pr) (rs : List Rp) (ep : Int) (ms : List Mb) (op : Opn) (w : World) (h : BoxS B O w vp vr vm ps rs ep ms) (hB : B ≤ w.heap.size) (hp : ps.length ≤ 100000) (ho : op.ok) (hk : op.kind = 3) (hpb : pairB ps op.key = false) :
    Calls Tryd.prog 26 #[.pointer (some ⟨O, 0, none⟩), .agg op.arr] w (DoesEnd B O vp vr vm ps rs ep ms (fun code out ps' ep' ms' => code = 7 ∧ out = [] ∧ ps' = ps ∧ ep' = ep ∧ ms' = ms) w) := by
  have o0 := op.at0
  have o1 := op.at1
  have o2 := op.at2
  have o3 := op.at3
  obtain ⟨Ap, cp, hvp, sp, -⟩ := own_shape h.s.p
  obtain ⟨Ar, cr, hvr, sr, -⟩ := own_shape h.s.r
  obtain ⟨Am, cm, hvm, sm, -⟩ := own_shape h.s.m
  subst hvp hvr hvm
  obtain ⟨_, _, e1, P⟩ := PS_of_own h.s.p h.s.okp (by omega)
  cases e1
  have hrow := h.row
  have hOl := h.lt
  obtain ⟨np, hnp⟩ : ∃ n, ps.length = n := ⟨_, rfl⟩
  have hn1 : (np : Int) ≤ 100000 := by omega
  rw [hnp] at h P sp hrow ⊢
  have hBw := (Below.refl w.heap.size w).alloc (Nat.le_refl _) (.cells op.arr 44)
  have HN := Lib.hid (And.intro hnp (And.intro h (And.intro P hBw)))
  have hkl : (op.key.size : Int) ≤ 140737488355328 := by have := ho.key; omega
  rw [hk] at o0
  obtain ⟨w2, hw2⟩ : ∃ w2, w.alloc (.cells op.arr 44) = w2 := ⟨_, rfl⟩
  have hs2 : w2.heap.size = w.heap.size + 1 := by rw [← hw2]; simp
  have e0 : ∀ w', Below w2.heap.size w2 w' → rowAt w' O 0 4 = some #[.slice Ap np cp, .slice Ar rs.length cr, .int .i64 ep, .slice Am ms.length cm] := fun w' hb => by
    rw [rowAt_below hb (by omega), ← hw2, rowAt_alloc_past _ _ _ _ _ hOl]; exact hrow
  have e1 : ∀ w', Below w2.heap.size w2 w' → w'.cell? ⟨w.heap.size, 1, none⟩ = some (.string op.key) := fun w' hb => by
    rw [hb.cell (p := ⟨w.heap.size, 1, none⟩) (by simp; omega), ← hw2, World.cell?_alloc_at _ _ _ _ rfl]; exact o1
  have e2 : ∀ w', Below w2.heap.size w2 w' → w'.cell? ⟨w.heap.size, 0, none⟩ = some (.int .i64 3) := fun w' hb => by
    rw [hb.cell (p := ⟨w.heap.size, 0, none⟩) (by simp; omega), ← hw2, World.cell?_alloc_at _ _ _ _ rfl]; exact o0
  have e3 : ∀ w', Below w2.heap.size w2 w' → w'.cell? ⟨w.heap.size, 2, none⟩ = some (.string op.val) := fun w' hb => by
    rw [hb.cell (p := ⟨w.heap.size, 2, none⟩) (by simp; omega), ← hw2, World.cell?_alloc_at _ _ _ _ rfl]; exact o2
  have e4 : ∀ w', Below w2.heap.size w2 w' → w'.cell? ⟨w.heap.size, 3, none⟩ = some (.string op.old) := fun w' hb => by
    rw [hb.cell (p := ⟨w.heap.size, 3, none⟩) (by simp; omega), ← hw2, World.cell?_alloc_at _ _ _ _ rfl]; exact o3
  have hpr : ∀ w', Below w2.heap.size w2 w' → Calls Tryd.prog 46 #[.agg #[.slice Ap np cp, .slice Ar rs.length cr, .int .i64 ep, .slice Am ms.length cm], .string op.key] w' fun e w3 => e = .returned (.tuple #[.int .i64 (pairI ps op.key), .bool (pairB ps op.key)]) ∧ Below w2.heap.size w2 w3 := fun w' hb => by
    refine (pair_any _ _ Ap np cp ep ps op.key w' (P.below (hBw.trans ?_))).mono ?_
    · rw [hw2]; exact hb.mono (by omega)
    · rintro e w3 ⟨rfl, hb3⟩
      exact ⟨rfl, hb.trans (hb3.mono hb.size)⟩
  have hBw2 : Below w.heap.size w w2 := by rw [← hw2]; exact hBw
  have bd : Below w2.heap.size w2 w2.drew := (Below.refl _ _).drew
  rw [hpb] at hpr
  generalize pairI ps op.key = pi at hpr
  clear hpb
  have HB := Lib.hid (And.intro hBw2 (And.intro hB ho))
  clear hnp h P sp sr sm hB hp ho hBw hrow o0 o1 o2 o3 hBw2
  go_enter Tryd.func26, Tryd.ntmps26
  go_wp2_with fail
  clear hw2
  go_region_held3 (fun w' => rowAt w' O 0 4 = some #[.slice Ap np cp, .slice Ar rs.length cr, .int .i64 ep, .slice Am ms.length cm] ∧ w'.cell? ⟨w.heap.size, 1, none⟩ = some (.string op.key) ∧ Below w2.heap.size w2 w') (exact ⟨e0 _ (by assumption), e1 _ (by assumption), by assumption⟩) (first | (go_at_call 46; refine (hpr _ (by assumption)).mono ?_; rintro e w3 ⟨rfl, hb3⟩))
  have k0 := e2 _ hb3
  have hbw := HB.out.1.trans (hb3.mono HB.out.1.size)
  have HX := Lib.hid (And.intro hbw (HN.out.2.1.below hbw))
  clear hb3 hbw
  go_wp2_with fail
  go_ret2
  exact ⟨7, _, [], _, _, ps, ep, ms, rfl, HX.out.2, ot_nil _ _, by simp, Mv.of_below HX.out.1, rfl, rfl, rfl, rfl, rfl⟩
set_option maxHeartbeats 4000000 in
theorem does_none4 (B O : Nat) (vp vr vm : Value) (ps : List Pr) (rs : List Rp) (ep : Int) (ms : List Mb) (op : Opn) (w : World) (h : BoxS B O w vp vr vm ps rs ep ms) (hB : B ≤ w.heap.size) (hp : ps.length ≤ 100000) (ho : op.ok) (hk : op.kind = 4) (hpb : pairB ps op.key = false) :
    Calls Tryd.prog 26 #[.pointer (some ⟨O, 0, none⟩), .agg op.arr] w (DoesEnd B O vp vr vm ps rs ep ms (fun code out ps' ep' ms' => code = 7 ∧ out = [] ∧ ps' = ps ∧ ep' = ep ∧ ms' = ms) w) := by
  have o0 := op.at0
  have o1 := op.at1
  have o2 := op.at2
  have o3 := op.at3
  obtain ⟨Ap, cp, hvp, sp, -⟩ := own_shape h.s.p
  obtain ⟨Ar, cr, hvr, sr, -⟩ := own_shape h.s.r
  obtain ⟨Am, cm, hvm, sm, -⟩ := own_shape h.s.m
  subst hvp hvr hvm
  obtain ⟨_, _, e1, P⟩ := PS_of_own h.s.p h.s.okp (by omega)
  cases e1
  have hrow := h.row
  have hOl := h.lt
  obtain ⟨np, hnp⟩ : ∃ n, ps.length = n := ⟨_, rfl⟩
  have hn1 : (np : Int) ≤ 100000 := by omega
  rw [hnp] at h P sp hrow ⊢
  have hBw := (Below.refl w.heap.size w).alloc (Nat.le_refl _) (.cells op.arr 44)
  have HN := Lib.hid (And.intro hnp (And.intro h (And.intro P hBw)))
  have hkl : (op.key.size : Int) ≤ 140737488355328 := by have := ho.key; omega
  rw [hk] at o0
  obtain ⟨w2, hw2⟩ : ∃ w2, w.alloc (.cells op.arr 44) = w2 := ⟨_, rfl⟩
  have hs2 : w2.heap.size = w.heap.size + 1 := by rw [← hw2]; simp
  have e0 : ∀ w', Below w2.heap.size w2 w' → rowAt w' O 0 4 = some #[.slice Ap np cp, .slice Ar rs.length cr, .int .i64 ep, .slice Am ms.length cm] := fun w' hb => by
    rw [rowAt_below hb (by omega), ← hw2, rowAt_alloc_past _ _ _ _ _ hOl]; exact hrow
  have e1 : ∀ w', Below w2.heap.size w2 w' → w'.cell? ⟨w.heap.size, 1, none⟩ = some (.string op.key) := fun w' hb => by
    rw [hb.cell (p := ⟨w.heap.size, 1, none⟩) (by simp; omega), ← hw2, World.cell?_alloc_at _ _ _ _ rfl]; exact o1
  have e2 : ∀ w', Below w2.heap.size w2 w' → w'.cell? ⟨w.heap.size, 0, none⟩ = some (.int .i64 4) := fun w' hb => by
    rw [hb.cell (p := ⟨w.heap.size, 0, none⟩) (by simp; omega), ← hw2, World.cell?_alloc_at _ _ _ _ rfl]; exact o0
  have e3 : ∀ w', Below w2.heap.size w2 w' → w'.cell? ⟨w.heap.size, 2, none⟩ = some (.string op.val) := fun w' hb => by
    rw [hb.cell (p := ⟨w.heap.size, 2, none⟩) (by simp; omega), ← hw2, World.cell?_alloc_at _ _ _ _ rfl]; exact o2
  have e4 : ∀ w', Below w2.heap.size w2 w' → w'.cell? ⟨w.heap.size, 3, none⟩ = some (.string op.old) := fun w' hb => by
    rw [hb.cell (p := ⟨w.heap.size, 3, none⟩) (by simp; omega), ← hw2, World.cell?_alloc_at _ _ _ _ rfl]; exact o3
  have hpr : ∀ w', Below w2.heap.size w2 w' → Calls Tryd.prog 46 #[.agg #[.slice Ap np cp, .slice Ar rs.length cr, .int .i64 ep, .slice Am ms.length cm], .string op.key] w' fun e w3 => e = .returned (.tuple #[.int .i64 (pairI ps op.key), .bool (pairB ps op.key)]) ∧ Below w2.heap.size w2 w3 := fun w' hb => by
    refine (pair_any _ _ Ap np cp ep ps op.key w' (P.below (hBw.trans ?_))).mono ?_
    · rw [hw2]; exact hb.mono (by omega)
    · rintro e w3 ⟨rfl, hb3⟩
      exact ⟨rfl, hb.trans (hb3.mono hb.size)⟩
  have hBw2 : Below w.heap.size w w2 := by rw [← hw2]; exact hBw
  have bd : Below w2.heap.size w2 w2.drew := (Below.refl _ _).drew
  rw [hpb] at hpr
  generalize pairI ps op.key = pi at hpr
  clear hpb
  have HB := Lib.hid (And.intro hBw2 (And.intro hB ho))
  clear hnp h P sp sr sm hB hp ho hBw hrow o0 o1 o2 o3 hBw2
  go_enter Tryd.func26, Tryd.ntmps26
  go_wp2_with fail
  clear hw2
  go_region_held3 (fun w' => rowAt w' O 0 4 = some #[.slice Ap np cp, .slice Ar rs.length cr, .int .i64 ep, .slice Am ms.length cm] ∧ w'.cell? ⟨w.heap.size, 1, none⟩ = some (.string op.key) ∧ Below w2.heap.size w2 w') (exact ⟨e0 _ (by assumption), e1 _ (by assumption), by assumption⟩) (first | (go_at_call 46; refine (hpr _ (by assumption)).mono ?_; rintro e w3 ⟨rfl, hb3⟩))
  have k0 := e2 _ hb3
  have hbw := HB.out.1.trans (hb3.mono HB.out.1.size)
  have HX := Lib.hid (And.intro hbw (HN.out.2.1.below hbw))
  clear hb3 hbw
  go_wp2_with fail
  go_ret2
  exact ⟨7, _, [], _, _, ps, ep, ms, rfl, HX.out.2, ot_nil _ _, by simp, Mv.of_below HX.out.1, rfl, rfl, rfl, rfl, rfl⟩
set_option maxHeartbeats 4000000 in
theorem does_get (B O : Nat) (vp vr vm : Value) (ps : List Pr) (rs : List Rp) (ep : Int) (ms : List Mb) (op : Opn) (w : World) (h : BoxS B O w vp vr vm ps rs ep ms) (hB : B ≤ w.heap.size) (hp : ps.length ≤ 100000) (ho : op.ok) (hk : op.kind = 1) (hpb : pairB ps op.key = true) :
    Calls Tryd.prog 26 #[.pointer (some ⟨O, 0, none⟩), .agg op.arr] w (DoesEnd B O vp vr vm ps rs ep ms (fun code out ps' ep' ms' => code = 0 ∧ out = [(ps.getD (pairI ps op.key) default).val] ∧ ps' = ps ∧ ep' = ep ∧ ms' = ms) w) := by
  have o0 := op.at0
  have o1 := op.at1
  have o2 := op.at2
  have o3 := op.at3
  obtain ⟨Ap, cp, hvp, sp, -⟩ := own_shape h.s.p
  obtain ⟨Ar, cr, hvr, sr, -⟩ := own_shape h.s.r
  obtain ⟨Am, cm, hvm, sm, -⟩ := own_shape h.s.m
  subst hvp hvr hvm
  obtain ⟨_, _, e1, P⟩ := PS_of_own h.s.p h.s.okp (by omega)
  cases e1
  have hrow := h.row
  have hOl := h.lt
  obtain ⟨np, hnp⟩ : ∃ n, ps.length = n := ⟨_, rfl⟩
  have hn1 : (np : Int) ≤ 100000 := by omega
  rw [hnp] at h P sp hrow ⊢
  have hBw := (Below.refl w.heap.size w).alloc (Nat.le_refl _) (.cells op.arr 44)
  have HN := Lib.hid (And.intro hnp (And.intro h (And.intro P hBw)))
  have hkl : (op.key.size : Int) ≤ 140737488355328 := by have := ho.key; omega
  rw [hk] at o0
  obtain ⟨w2, hw2⟩ : ∃ w2, w.alloc (.cells op.arr 44) = w2 := ⟨_, rfl⟩
  have hs2 : w2.heap.size = w.heap.size + 1 := by rw [← hw2]; simp
  have e0 : ∀ w', Below w2.heap.size w2 w' → rowAt w' O 0 4 = some #[.slice Ap np cp, .slice Ar rs.length cr, .int .i64 ep, .slice Am ms.length cm] := fun w' hb => by
    rw [rowAt_below hb (by omega), ← hw2, rowAt_alloc_past _ _ _ _ _ hOl]; exact hrow
  have e1 : ∀ w', Below w2.heap.size w2 w' → w'.cell? ⟨w.heap.size, 1, none⟩ = some (.string op.key) := fun w' hb => by
    rw [hb.cell (p := ⟨w.heap.size, 1, none⟩) (by simp; omega), ← hw2, World.cell?_alloc_at _ _ _ _ rfl]; exact o1
  have e2 : ∀ w', Below w2.heap.size w2 w' → w'.cell? ⟨w.heap.size, 0, none⟩ = some (.int .i64 1) := fun w' hb => by
    rw [hb.cell (p := ⟨w.heap.size, 0, none⟩) (by simp; omega), ← hw2, World.cell?_alloc_at _ _ _ _ rfl]; exact o0
  have e3 : ∀ w', Below w2.heap.size w2 w' → w'.cell? ⟨w.heap.size, 2, none⟩ = some (.string op.val) := fun w' hb => by
    rw [hb.cell (p := ⟨w.heap.size, 2, none⟩) (by simp; omega), ← hw2, World.cell?_alloc_at _ _ _ _ rfl]; exact o2
  have e4 : ∀ w', Below w2.heap.size w2 w' → w'.cell? ⟨w.heap.size, 3, none⟩ = some (.string op.old) := fun w' hb => by
    rw [hb.cell (p := ⟨w.heap.size, 3, none⟩) (by simp; omega), ← hw2, World.cell?_alloc_at _ _ _ _ rfl]; exact o3
  have hpr : ∀ w', Below w2.heap.size w2 w' → Calls Tryd.prog 46 #[.agg #[.slice Ap np cp, .slice Ar rs.length cr, .int .i64 ep, .slice Am ms.length cm], .string op.key] w' fun e w3 => e = .returned (.tuple #[.int .i64 (pairI ps op.key), .bool (pairB ps op.key)]) ∧ Below w2.heap.size w2 w3 := fun w' hb => by
    refine (pair_any _ _ Ap np cp ep ps op.key w' (P.below (hBw.trans ?_))).mono ?_
    · rw [hw2]; exact hb.mono (by omega)
    · rintro e w3 ⟨rfl, hb3⟩
      exact ⟨rfl, hb.trans (hb3.mono hb.size)⟩
  have hBw2 : Below w.heap.size w w2 := by rw [← hw2]; exact hBw
  have bd : Below w2.heap.size w2 w2.drew := (Below.refl _ _).drew
  have hpi := pairB_lt hpb
  rw [hpb] at hpr
  rw [HN.out.1] at hpi
  generalize hI : pairI ps op.key = pi at hpr hpi ⊢
  have HI := Lib.hid hI
  clear hI hpb
  have HB := Lib.hid (And.intro hBw2 (And.intro hB ho))
  clear hnp h P sp sr sm hB hp ho hBw hrow o0 o1 o2 o3 hBw2
  go_enter Tryd.func26, Tryd.ntmps26
  go_wp2_with fail
  clear hw2
  go_region_held3 (fun w' => rowAt w' O 0 4 = some #[.slice Ap np cp, .slice Ar rs.length cr, .int .i64 ep, .slice Am ms.length cm] ∧ w'.cell? ⟨w.heap.size, 1, none⟩ = some (.string op.key) ∧ Below w2.heap.size w2 w') (exact ⟨e0 _ (by assumption), e1 _ (by assumption), by assumption⟩) (first | (go_at_call 46; refine (hpr _ (by assumption)).mono ?_; rintro e w3 ⟨rfl, hb3⟩))
  have k0 := e2 _ hb3
  have hbw := HB.out.1.trans (hb3.mono HB.out.1.size)
  have hbx := HN.out.2.1.below hbw
  obtain ⟨b, off, rfl, hbb, hel⟩ := HN.out.2.2.1.mem (by omega)
  have c1 := cell_of_rowAt ((rowAt_below hbw hbb _ _).trans (hel pi hpi)) 1 _ (Pr.at1 _)
  generalize hv : (ps.getD pi default).val = pv at c1 ⊢
  have hi1 : (pi : Int) < np := by omega
  have hi0 : ¬ (pi : Int) < 0 := by omega
  have c0 : w3.cell? ⟨O, 0, none⟩ = some (.slice (some ⟨b, off, none⟩) np cp) := cell_of_rowAt (e0 _ hb3) 0 _ rfl
  have HX := Lib.hid (And.intro hbw (And.intro hbx hv))
  clear hb3 hbw hbx hel hv
  go_wp2_with fail
  go_ret2
  have hbz : Below w3.heap.size w3 (w3.alloc (.cells #[.string pv] 9)) := (Below.refl _ _).alloc (Nat.le_refl _) _
  have hO : OT (w3.alloc (.cells #[.string pv] 9)) w.heap.size (.slice (some ⟨w3.heap.size, 0, none⟩) 1 1) [pv] :=
    own_of_block HX.out.1.size (heap_alloc_new w3 _) (Nat.le_refl _) (by decide) rfl rfl
  exact ⟨0, _, [pv], _, _, ps, ep, ms, rfl, HX.out.2.1.below hbz, hO, by simp, Mv.of_below (HX.out.1.trans (hbz.mono HX.out.1.size)), rfl, by rw [← HX.out.2.2, List.getD_eq_getElem?_getD], rfl, rfl, rfl⟩
set_option maxHeartbeats 4000000 in
theorem does_del (B O : Nat) (vp vr vm : Value) (ps : List Pr) (rs : List Rp) (ep : Int) (ms : List Mb) (op : Opn) (w : World) (h : BoxS B O w vp vr vm ps rs ep ms) (hB : B ≤ w.heap.size) (hp : ps.length ≤ 100000) (ho : op.ok) (hk : op.kind = 3) (hpb : pairB ps op.key = true) :
    Calls Tryd.prog 26 #[.pointer (some ⟨O, 0, none⟩), .agg op.arr] w (DoesEnd B O vp vr vm ps rs ep ms (fun code out ps' ep' ms' => code = 0 ∧ out = [] ∧ ps' = ps.eraseIdx (pairI ps op.key) ∧ ep' = ep ∧ ms' = ms) w) := by
  have o0 := op.at0
  have o1 := op.at1
  have o2 := op.at2
  have o3 := op.at3
  obtain ⟨Ap, cp, hvp, sp, -⟩ := own_shape h.s.p
  obtain ⟨Ar, cr, hvr, sr, -⟩ := own_shape h.s.r
  obtain ⟨Am, cm, hvm, sm, -⟩ := own_shape h.s.m
  subst hvp hvr hvm
  obtain ⟨_, _, e1, P⟩ := PS_of_own h.s.p h.s.okp (by omega)
  cases e1
  have hrow := h.row
  have hOl := h.lt
  obtain ⟨np, hnp⟩ : ∃ n, ps.length = n := ⟨_, rfl⟩
  have hn1 : (np : Int) ≤ 100000 := by omega
  rw [hnp] at h P sp hrow ⊢
  have hBw := (Below.refl w.heap.size w).alloc (Nat.le_refl _) (.cells op.arr 44)
  have HN := Lib.hid (And.intro hnp (And.intro h (And.intro P hBw)))
  have hkl : (op.key.size : Int) ≤ 140737488355328 := by have := ho.key; omega
  rw [hk] at o0
  obtain ⟨w2, hw2⟩ : ∃ w2, w.alloc (.cells op.arr 44) = w2 := ⟨_, rfl⟩
  have hs2 : w2.heap.size = w.heap.size + 1 := by rw [← hw2]; simp
  have e0 : ∀ w', Below w2.heap.size w2 w' → rowAt w' O 0 4 = some #[.slice Ap np cp, .slice Ar rs.length cr, .int .i64 ep, .slice Am ms.length cm] := fun w' hb => by
    rw [rowAt_below hb (by omega), ← hw2, rowAt_alloc_past _ _ _ _ _ hOl]; exact hrow
  have e1 : ∀ w', Below w2.heap.size w2 w' → w'.cell? ⟨w.heap.size, 1, none⟩ = some (.string op.key) := fun w' hb => by
    rw [hb.cell (p := ⟨w.heap.size, 1, none⟩) (by simp; omega), ← hw2, World.cell?_alloc_at _ _ _ _ rfl]; exact o1
  have e2 : ∀ w', Below w2.heap.size w2 w' → w'.cell? ⟨w.heap.size, 0, none⟩ = some (.int .i64 3) := fun w' hb => by
    rw [hb.cell (p := ⟨w.heap.size, 0, none⟩) (by simp; omega), ← hw2, World.cell?_alloc_at _ _ _ _ rfl]; exact o0
  have e3 : ∀ w', Below w2.heap.size w2 w' → w'.cell? ⟨w.heap.size, 2, none⟩ = some (.string op.val) := fun w' hb => by
    rw [hb.cell (p := ⟨w.heap.size, 2, none⟩) (by simp; omega), ← hw2, World.cell?_alloc_at _ _ _ _ rfl]; exact o2
  have e4 : ∀ w', Below w2.heap.size w2 w' → w'.cell? ⟨w.heap.size, 3, none⟩ = some (.string op.old) := fun w' hb => by
    rw [hb.cell (p := ⟨w.heap.size, 3, none⟩) (by simp; omega), ← hw2, World.cell?_alloc_at _ _ _ _ rfl]; exact o3
  have hpr : ∀ w', Below w2.heap.size w2 w' → Calls Tryd.prog 46 #[.agg #[.slice Ap np cp, .slice Ar rs.length cr, .int .i64 ep, .slice Am ms.length cm], .string op.key] w' fun e w3 => e = .returned (.tuple #[.int .i64 (pairI ps op.key), .bool (pairB ps op.key)]) ∧ Below w2.heap.size w2 w3 := fun w' hb => by
    refine (pair_any _ _ Ap np cp ep ps op.key w' (P.below (hBw.trans ?_))).mono ?_
    · rw [hw2]; exact hb.mono (by omega)
    · rintro e w3 ⟨rfl, hb3⟩
      exact ⟨rfl, hb.trans (hb3.mono hb.size)⟩
  have hBw2 : Below w.heap.size w w2 := by rw [← hw2]; exact hBw
  have bd : Below w2.heap.size w2 w2.drew := (Below.refl _ _).drew
  have hpi := pairB_lt hpb
  rw [hpb] at hpr
  rw [HN.out.1] at hpi
  generalize hI : pairI ps op.key = pi at hpr hpi ⊢
  have HI := Lib.hid hI
  clear hI hpb
  have HB := Lib.hid (And.intro hBw2 (And.intro hB ho))
  clear hnp h P sp sr sm hB hp ho hBw hrow o0 o1 o2 o3 hBw2
  go_enter Tryd.func26, Tryd.ntmps26
  go_wp2_with fail
  clear hw2
  go_region_held3 (fun w' => rowAt w' O 0 4 = some #[.slice Ap np cp, .slice Ar rs.length cr, .int .i64 ep, .slice Am ms.length cm] ∧ w'.cell? ⟨w.heap.size, 1, none⟩ = some (.string op.key) ∧ Below w2.heap.size w2 w') (exact ⟨e0 _ (by assumption), e1 _ (by assumption), by assumption⟩) (first | (go_at_call 46; refine (hpr _ (by assumption)).mono ?_; rintro e w3 ⟨rfl, hb3⟩))
  have k0 := e2 _ hb3
  have hbw := HB.out.1.trans (hb3.mono HB.out.1.size)
  have hbx := HN.out.2.1.below hbw
  have c0 : w3.cell? ⟨O, 0, none⟩ = some (.slice Ap np cp) := cell_of_rowAt (e0 _ hb3) 0 _ rfl
  have hdel := delete_anyP (i := pi) hbx.s.p hbx.s.okp (by have := HN.out.1; omega) (by rw [HN.out.1]; exact hpi)
  rw [HN.out.1] at hdel
  have hi1 : (pi : Int) < np := by omega
  have hi0 : ¬ (pi : Int) < 0 := by omega
  have HX := Lib.hid (And.intro hbw hbx)
  clear hb3 hbw hbx
  go_wp2_with fail
  refine hdel.mono ?_
  rintro e w4 ⟨v', rfl, own4, hvb, gr4⟩
  have hl4 : np - 1 = (ps.eraseIdx pi).length := by rw [List.length_eraseIdx, if_pos (by rw [HN.out.1]; exact hpi), HN.out.1]
  rw [hl4] at own4
  obtain ⟨c4, f4, bx4⟩ := HX.out.2.setP (fun y hy => HX.out.2.s.okp y (List.mem_of_mem_eraseIdx hy)) own4 (Mv.of_grown (fp := fun k => (Value.slice Ap np cp).ownBlock = some k) gr4 (fun k hk => hk)) (.inl hvb)
  obtain ⟨A4, c4', rfl, -⟩ := own_shape own4
  have mv4 : Mv (fun k => k = O ∨ (Value.slice Ap np cp).ownBlock = some k) w (w4.setCell ⟨O, 0, none⟩ (.slice A4 (ps.eraseIdx pi).length c4')) :=
    ((Mv.of_below (fp := fun k => k = O ∨ (Value.slice Ap np cp).ownBlock = some k) HX.out.1).trans ((Mv.of_grown (fp := fun k => (Value.slice Ap np cp).ownBlock = some k) gr4 (fun k hk => hk)).mono (fun k _ c => Or.inr c)) (fun k _ c => c)).trans (Mv.setCell (fp := fun k => k = O ∨ (Value.slice Ap np cp).ownBlock = some k) _ _ _ (.inl rfl)) (fun k _ c => c)
  have E := Lib.hid (And.intro bx4 mv4)
  clear own4 hvb gr4 hl4 bx4 mv4 hdel c0
  generalize hln : (ps.eraseIdx pi).length = ln at *
  have HLN := Lib.hid hln
  clear hln
  go_wp2_with fail
  go_ret2
  exact ⟨0, _, [], _, _, ps.eraseIdx pi, ep, ms, rfl, E.out.1, ot_nil _ _, by simp, E.out.2, rfl, rfl, rfl, rfl, rfl⟩
set_option maxHeartbeats 4000000 in
theorem does_set (B O : Nat) (vp vr vm : Value) (ps : List Pr) (rs : List Rp) (ep : Int) (ms : List Mb) (op : Opn) (w : World) (h : BoxS B O w vp vr vm ps rs ep ms) (hB : B ≤ w.heap.size) (hp : ps.length ≤ 100000) (ho : op.ok) (hk : op.kind = 4) (hpb : pairB ps op.key = true) (hne : ((ps.getD (pairI ps op.key) default).val.toList == op.old.toList) = true) :
    Calls Tryd.prog 26 #[.pointer (some ⟨O, 0, none⟩), .agg op.arr] w (DoesEnd B O vp vr vm ps rs ep ms (fun code out ps' ep' ms' => code = 0 ∧ out = [] ∧ ps' = ps.set (pairI ps op.key) ⟨(ps.getD (pairI ps op.key) default).key, op.val⟩ ∧ ep' = ep ∧ ms' = ms) w) := by
  have o0 := op.at0
  have o1 := op.at1
  have o2 := op.at2
  have o3 := op.at3
  obtain ⟨Ap, cp, hvp, sp, -⟩ := own_shape h.s.p
  obtain ⟨Ar, cr, hvr, sr, -⟩ := own_shape h.s.r
  obtain ⟨Am, cm, hvm, sm, -⟩ := own_shape h.s.m
  subst hvp hvr hvm
  obtain ⟨_, _, e1, P⟩ := PS_of_own h.s.p h.s.okp (by omega)
  cases e1
  have hrow := h.row
  have hOl := h.lt
  obtain ⟨np, hnp⟩ : ∃ n, ps.length = n := ⟨_, rfl⟩
  have hn1 : (np : Int) ≤ 100000 := by omega
  rw [hnp] at h P sp hrow ⊢
  have hBw := (Below.refl w.heap.size w).alloc (Nat.le_refl _) (.cells op.arr 44)
  have HN := Lib.hid (And.intro hnp (And.intro h (And.intro P hBw)))
  have hkl : (op.key.size : Int) ≤ 140737488355328 := by have := ho.key; omega
  rw [hk] at o0
  obtain ⟨w2, hw2⟩ : ∃ w2, w.alloc (.cells op.arr 44) = w2 := ⟨_, rfl⟩
  have hs2 : w2.heap.size = w.heap.size + 1 := by rw [← hw2]; simp
  have e0 : ∀ w', Below w2.heap.size w2 w' → rowAt w' O 0 4 = some #[.slice Ap np cp, .slice Ar rs.length cr, .int .i64 ep, .slice Am ms.length cm] := fun w' hb => by
    rw [rowAt_below hb (by omega), ← hw2, rowAt_alloc_past _ _ _ _ _ hOl]; exact hrow
  have e1 : ∀ w', Below w2.heap.size w2 w' → w'.cell? ⟨w.heap.size, 1, none⟩ = some (.string op.key) := fun w' hb => by
    rw [hb.cell (p := ⟨w.heap.size, 1, none⟩) (by simp; omega), ← hw2, World.cell?_alloc_at _ _ _ _ rfl]; exact o1
  have e2 : ∀ w', Below w2.heap.size w2 w' → w'.cell? ⟨w.heap.size, 0, none⟩ = some (.int .i64 4) := fun w' hb => by
    rw [hb.cell (p := ⟨w.heap.size, 0, none⟩) (by simp; omega), ← hw2, World.cell?_alloc_at _ _ _ _ rfl]; exact o0
  have e3 : ∀ w', Below w2.heap.size w2 w' → w'.cell? ⟨w.heap.size, 2, none⟩ = some (.string op.val) := fun w' hb => by
    rw [hb.cell (p := ⟨w.heap.size, 2, none⟩) (by simp; omega), ← hw2, World.cell?_alloc_at _ _ _ _ rfl]; exact o2
  have e4 : ∀ w', Below w2.heap.size w2 w' → w'.cell? ⟨w.heap.size, 3, none⟩ = some (.string op.old) := fun w' hb => by
    rw [hb.cell (p := ⟨w.heap.size, 3, none⟩) (by simp; omega), ← hw2, World.cell?_alloc_at _ _ _ _ rfl]; exact o3
  have hpr : ∀ w', Below w2.heap.size w2 w' → Calls Tryd.prog 46 #[.agg #[.slice Ap np cp, .slice Ar rs.length cr, .int .i64 ep, .slice Am ms.length cm], .string op.key] w' fun e w3 => e = .returned (.tuple #[.int .i64 (pairI ps op.key), .bool (pairB ps op.key)]) ∧ Below w2.heap.size w2 w3 := fun w' hb => by
    refine (pair_any _ _ Ap np cp ep ps op.key w' (P.below (hBw.trans ?_))).mono ?_
    · rw [hw2]; exact hb.mono (by omega)
    · rintro e w3 ⟨rfl, hb3⟩
      exact ⟨rfl, hb.trans (hb3.mono hb.size)⟩
  have hBw2 : Below w.heap.size w w2 := by rw [← hw2]; exact hBw
  have bd : Below w2.heap.size w2 w2.drew := (Below.refl _ _).drew
  have hpi := pairB_lt hpb
  rw [hpb] at hpr
  rw [HN.out.1] at hpi
  generalize hI : pairI ps op.key = pi at hpr hpi hne ⊢
  have HI := Lib.hid hI
  clear hI hpb
  have HB := Lib.hid (And.intro hBw2 (And.intro hB ho))
  clear hnp h P sp sr sm hB hp ho hBw hrow o0 o1 o2 o3 hBw2
  go_enter Tryd.func26, Tryd.ntmps26
  go_wp2_with fail
  clear hw2
  go_region_held3 (fun w' => rowAt w' O 0 4 = some #[.slice Ap np cp, .slice Ar rs.length cr, .int .i64 ep, .slice Am ms.length cm] ∧ w'.cell? ⟨w.heap.size, 1, none⟩ = some (.string op.key) ∧ Below w2.heap.size w2 w') (exact ⟨e0 _ (by assumption), e1 _ (by assumption), by assumption⟩) (first | (go_at_call 46; refine (hpr _ (by assumption)).mono ?_; rintro e w3 ⟨rfl, hb3⟩))
  have k0 := e2 _ hb3
  have k2 := e3 _ hb3
  have k4 := e4 _ hb3
  have hbw := HB.out.1.trans (hb3.mono HB.out.1.size)
  have hbx := HN.out.2.1.below hbw
  obtain ⟨_, _, e1', -, hA⟩ := own_shape hbx.s.p
  rw [HN.out.1] at e1'
  cases e1'
  obtain ⟨g, off, rfl, hbb, hel⟩ := HN.out.2.2.1.mem (by omega)
  obtain ⟨hg, rfl, -⟩ := hA _ _ _ rfl
  obtain ⟨c1, -, -⟩ := own_setVal op.val (by have := hbx.s.p; rw [HN.out.1] at this; exact this) HN.out.1 hpi
  generalize hv : (ps.getD pi default).val = pv at c1 hne
  have hi1 : (pi : Int) < np := by omega
  have hi0 : ¬ (pi : Int) < 0 := by omega
  have c0 : w3.cell? ⟨O, 0, none⟩ = some (.slice (some ⟨g, 0, none⟩) np cp) := cell_of_rowAt (e0 _ hb3) 0 _ rfl
  have HX := Lib.hid (And.intro hbw (And.intro hbx hg))
  have lw3 : w.heap.size < w3.heap.size := by have := hb3.size; omega
  clear hb3 hbw hbx hel hv hg hA
  go_wp2_with fail
  go_quiet (fail)
  have bq := below_drewN (Below.refl w3.heap.size w3) nq
  generalize w3.drewN nq = w5 at bq ⊢
  have c0 := (bq.cell (p := ⟨O, 0, none⟩) (by simp; exact HX.out.2.1.lt)).trans c0
  have k2 := (bq.cell (p := ⟨w.heap.size, 2, none⟩) (by simp; omega)).trans k2
  obtain ⟨c5, f5, o5⟩ := own_setVal op.val (by have := (HX.out.2.1.below bq).s.p; rw [HN.out.1] at this; exact this) HN.out.1 hpi
  have HY := Lib.hid (And.intro bq o5)
  clear bq o5 c1
  go_wp2_with fail
  go_region
  go_wp2_with fail
  go_ret2
  obtain ⟨bx5, m5⟩ := (HX.out.2.1.below HY.out.1).setVal (i := pi) (val := op.val) HN.out.1 hpi HB.out.2.2.val
  have bd := (Below.refl (w5.setCell ⟨g, pi * 2 + 1, none⟩ (.string op.val)).heap.size (w5.setCell ⟨g, pi * 2 + 1, none⟩ (.string op.val))).drew
  have mz : Mv (fun k => k = O ∨ (Value.slice (some ⟨g, 0, none⟩) np cp).ownBlock = some k) w (w5.setCell ⟨g, pi * 2 + 1, none⟩ (.string op.val)).drew :=
    (((Mv.of_below (fp := fun k => k = O ∨ (Value.slice (some ⟨g, 0, none⟩) np cp).ownBlock = some k) (HX.out.1.trans (HY.out.1.mono HX.out.1.size))).trans (m5.mono (fun k _ c => Or.inr c)) (fun k _ c => c))).trans (Mv.of_below (fp := fun k => k = O ∨ (Value.slice (some ⟨g, 0, none⟩) np cp).ownBlock = some k) bd) (fun k _ c => c)
  exact ⟨0, _, [], _, _, ps.set pi ⟨(ps.getD pi default).key, op.val⟩, ep, ms, rfl, bx5.below bd, ot_nil _ _, by simp, mz, rfl, rfl, rfl, rfl, rfl⟩
end Go.Proofs.YtfnfgnhbnffagaaDoor
