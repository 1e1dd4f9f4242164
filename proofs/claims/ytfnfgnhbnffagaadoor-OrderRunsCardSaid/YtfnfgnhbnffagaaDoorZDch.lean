/-
What a change of the configuration does.
-/
import Derived.Test.YtfnfgnhbnffagaaDoorZDcf
import Derived.Test.YtfnfgnhbnffagaaDoorZApplyE
import Derived.Deep.CutBlock
namespace Go.Proofs.YtfnfgnhbnffagaaDoor
open Go.RowKit
set_option linter.unusedVariables false
set_option linter.unusedSimpArgs false
set_option maxRecDepth 100000
theorem BoxS.setM {B O : Nat} {w w6 : World} {vp vr vm vm' : Value} {ps : List Pr} {rs : List Rp} {ep : Int} {ms L : List Mb} (h : BoxS B O w vp vr vm ps rs ep ms) (hB : B ≤ w.heap.size) (b : Below w.heap.size w w6)
    (own6 : w6.ownsRow w.heap.size 60 34 vm' L.length (flatC Mb.cells L)) (ok : OkAll L) (X : Int) :
    w6.frozen? ⟨O, 2, none⟩ = false ∧ w6.frozen? ⟨O, 3, none⟩ = false ∧ BoxS B O ((w6.setCell ⟨O, 2, none⟩ (.int .i64 X)).setCell ⟨O, 3, none⟩ vm') vp vr vm' ps rs X L := by
  have h6 := h.below b
  have hl := h.lt
  have e1 := heap_setCell_same w6 O 2 _ _ (.int .i64 X) h6.o
  have e2 := heap_setCell_same (w6.setCell ⟨O, 2, none⟩ (.int .i64 X)) O 3 _ _ vm' e1
  have s6 := (h6.s.setO 2 (.int .i64 X)).setO 3 vm'
  have m6 : Mv (· = O) w6 ((w6.setCell ⟨O, 2, none⟩ (.int .i64 X)).setCell ⟨O, 3, none⟩ vm') := (Mv.setCell (fp := (· = O)) _ _ _ rfl).trans (Mv.setCell (fp := (· = O)) _ _ _ rfl) (fun _ _ c => c)
  refine ⟨by simp [World.frozen?, h6.o], by simp [World.frozen?, h6.o], ⟨e2, ?_⟩⟩
  have hv : ∀ k, vm'.ownBlock = some k → w.heap.size ≤ k := fun k hk => (own_lt own6 hk).1
  refine ⟨s6.p, s6.r, own_mono (own_mv own6 m6 (fun g hg c => by have := hv g hg; omega)) hB, s6.t, s6.okp, s6.okr, ok, fun k hk => ?_, fun k hk => ?_, fun e => by have := hv _ e; omega, s6.at_⟩
  · obtain ⟨a1, a2, a3, a4⟩ := h.s.ap k hk
    exact ⟨a1, a2, fun e => by have := hv k e; have := (own_lt h.s.p hk).2; omega, a4⟩
  · obtain ⟨a1, a2, a3⟩ := h.s.ar k hk
    exact ⟨a1, fun e => by have := hv k e; have := (own_lt h.s.r hk).2; omega, a3⟩
set_option maxHeartbeats 4000000 in
theorem does_chg (B O : Nat) (vp vr vm : Value) (ps : List Pr) (rs : List Rp) (ep : Int) (ms : List Mb) (op : Opn) (w : World) (h : BoxS B O w vp vr vm ps rs ep ms) (hB : B ≤ w.heap.size) (hp : ps.length ≤ 100000) (ho : op.ok) (hk : op.kind = 7) (hmm : ms.length ≤ 100000) :
    Calls Tryd.prog 26 #[.pointer (some ⟨O, 0, none⟩), .agg op.arr] w (DoesEnd B O vp vr vm ps rs ep ms (fun code out ps' ep' ms' => out = [] ∧ ps' = ps ∧ code = appE ep ms op.chg ∧ ((code ≠ 0 ∧ ep' = ep ∧ ms' = ms) ∨ (code = 0 ∧ ep' = ep + 1 ∧ ms' = appR ep ms op.chg))) w) := by
  have o0 := op.at0
  have o1 := op.at1
  have o2 := op.at2
  have o3 := op.at3
  obtain ⟨Ap, cp, hvp, sp, -⟩ := own_shape h.s.p
  obtain ⟨Ar, cr, hvr, sr, -⟩ := own_shape h.s.r
  obtain ⟨Am, cm, hvm, sm, -⟩ := own_shape h.s.m
  subst hvp hvr hvm
  obtain ⟨_, _, e1, P⟩ := PS_of_own h.s.p h.s.okp (by omega)
  cases e1
  have hrow := h.row
  have hOl := h.lt
  obtain ⟨np, hnp⟩ : ∃ n, ps.length = n := ⟨_, rfl⟩
  have hn1 : (np : Int) ≤ 100000 := by omega
  rw [hnp] at h P sp hrow ⊢
  have hBw := (Below.refl w.heap.size w).alloc (Nat.le_refl _) (.cells op.arr 44)
  have HN := Lib.hid (And.intro hnp (And.intro h (And.intro P hBw)))
  have hkl : (op.key.size : Int) ≤ 140737488355328 := by have := ho.key; omega
  rw [hk] at o0
  obtain ⟨w2, hw2⟩ : ∃ w2, w.alloc (.cells op.arr 44) = w2 := ⟨_, rfl⟩
  have hs2 : w2.heap.size = w.heap.size + 1 := by rw [← hw2]; simp
  have e0 : ∀ w', Below w2.heap.size w2 w' → rowAt w' O 0 4 = some #[.slice Ap np cp, .slice Ar rs.length cr, .int .i64 ep, .slice Am ms.length cm] := fun w' hb => by
    rw [rowAt_below hb (by omega), ← hw2, rowAt_alloc_past _ _ _ _ _ hOl]; exact hrow
  have e1 : ∀ w', Below w2.heap.size w2 w' → w'.cell? ⟨w.heap.size, 1, none⟩ = some (.string op.key) := fun w' hb => by
    rw [hb.cell (p := ⟨w.heap.size, 1, none⟩) (by simp; omega), ← hw2, World.cell?_alloc_at _ _ _ _ rfl]; exact o1
  have e2 : ∀ w', Below w2.heap.size w2 w' → w'.cell? ⟨w.heap.size, 0, none⟩ = some (.int .i64 7) := fun w' hb => by
    rw [hb.cell (p := ⟨w.heap.size, 0, none⟩) (by simp; omega), ← hw2, World.cell?_alloc_at _ _ _ _ rfl]; exact o0
  have e3 : ∀ w', Below w2.heap.size w2 w' → w'.cell? ⟨w.heap.size, 2, none⟩ = some (.string op.val) := fun w' hb => by
    rw [hb.cell (p := ⟨w.heap.size, 2, none⟩) (by simp; omega), ← hw2, World.cell?_alloc_at _ _ _ _ rfl]; exact o2
  have e4 : ∀ w', Below w2.heap.size w2 w' → w'.cell? ⟨w.heap.size, 3, none⟩ = some (.string op.old) := fun w' hb => by
    rw [hb.cell (p := ⟨w.heap.size, 3, none⟩) (by simp; omega), ← hw2, World.cell?_alloc_at _ _ _ _ rfl]; exact o3
  have e5 : ∀ w', Below w2.heap.size w2 w' → rowAt w' w.heap.size 4 36 = some op.chg.arr := fun w' hb => by
    rw [rowAt_below hb (by omega), ← hw2, rowAt_alloc_at _ _ _ _ _ _ rfl]; exact Opn.cutChg ho
  have hpr : ∀ w', Below w2.heap.size w2 w' → Calls Tryd.prog 46 #[.agg #[.slice Ap np cp, .slice Ar rs.length cr, .int .i64 ep, .slice Am ms.length cm], .string op.key] w' fun e w3 => e = .returned (.tuple #[.int .i64 (pairI ps op.key), .bool (pairB ps op.key)]) ∧ Below w2.heap.size w2 w3 := fun w' hb => by
    refine (pair_any _ _ Ap np cp ep ps op.key w' (P.below (hBw.trans ?_))).mono ?_
    · rw [hw2]; exact hb.mono (by omega)
    · rintro e w3 ⟨rfl, hb3⟩
      exact ⟨rfl, hb.trans (hb3.mono hb.size)⟩
  have hBw2 : Below w.heap.size w w2 := by rw [← hw2]; exact hBw
  have bd : Below w2.heap.size w2 w2.drew := (Below.refl _ _).drew
  generalize pairI ps op.key = pi at hpr
  generalize pairB ps op.key = pb at hpr
  have HM := Lib.hid hmm
  clear hmm
  have HB := Lib.hid (And.intro hBw2 (And.intro hB ho))
  clear hnp h P sp sr sm hB hp ho hBw hrow o0 o1 o2 o3 hBw2
  go_enter Tryd.func26, Tryd.ntmps26
  go_wp2_with fail
  clear hw2
  go_region_held3 (fun w' => rowAt w' O 0 4 = some #[.slice Ap np cp, .slice Ar rs.length cr, .int .i64 ep, .slice Am ms.length cm] ∧ w'.cell? ⟨w.heap.size, 1, none⟩ = some (.string op.key) ∧ Below w2.heap.size w2 w') (exact ⟨e0 _ (by assumption), e1 _ (by assumption), by assumption⟩) (first | (go_at_call 46; refine (hpr _ (by assumption)).mono ?_; rintro e w3 ⟨rfl, hb3⟩))
  have k0 := e2 _ hb3
  have hbw := HB.out.1.trans (hb3.mono HB.out.1.size)
  have hbx := HN.out.2.1.below hbw
  obtain ⟨_, _, e1', M⟩ := MS_of_own hbx.s.m hbx.s.okm (by have := HM.out; omega)
  cases e1'
  have r4 := e5 _ hb3
  have c2 : rowAt w3 O 2 2 = some #[.int .i64 ep, .slice Am ms.length cm] := by unfold rowAt; rw [hbx.o]; rfl
  have c22 : w3.cell? ⟨O, 2, none⟩ = some (.int .i64 ep) := cell_of_rowAt (e0 _ hb3) 2 _ rfl
  have c23 : w3.cell? ⟨O, 3, none⟩ = some (.slice Am ms.length cm) := cell_of_rowAt (e0 _ hb3) 3 _ rfl
  have hap : ∀ w', Below w3.heap.size w3 w' → Calls Tryd.prog 50 #[.agg #[.int .i64 ep, .slice Am ms.length cm], .agg op.chg.arr] w' fun e w'' => ∃ A' c', e = .returned (.tuple #[.agg #[.int .i64 (if appE ep ms op.chg = 0 then ep + 1 else 0), .slice A' (appR ep ms op.chg).length c'], .int .i64 (appE ep ms op.chg)]) ∧
      w''.ownsRow w'.heap.size 60 34 (.slice A' (appR ep ms op.chg).length c') (appR ep ms op.chg).length (flatC Mb.cells (appR ep ms op.chg)) ∧ OkAll (appR ep ms op.chg) ∧ Below w'.heap.size w' w'' := fun w' hb => by
    refine (apply_any ep Am ms.length cm ms op.chg w' (M.below hb) HB.out.2.2.chg).mono ?_
    rintro e w'' ⟨v, rfl, o, ok, b⟩
    obtain ⟨A', c', rfl, -⟩ := own_shape o
    exact ⟨A', c', rfl, o, ok, b⟩
  have lO3 : O < w3.heap.size := hbx.lt
  have lw3 : w.heap.size < w3.heap.size := by have := hb3.size; omega
  have HX := Lib.hid (And.intro hbw hbx)
  clear hb3 hbw hbx M
  generalize hE : appE ep ms op.chg = E at hap ⊢
  generalize hX : (if E = 0 then ep + 1 else 0) = X at hap
  generalize hL : appR ep ms op.chg = L at hap ⊢
  have HE := Lib.hid (And.intro hE (And.intro hX hL))
  clear hE hX hL
  generalize hln : L.length = ln at hap
  have HLN := Lib.hid hln
  clear hln
  have bd : Below w3.heap.size w3 w3.drew := (Below.refl _ _).drew
  have bd2 : Below w3.heap.size w3 (w3.drew.alloc (.cells #[.int .i64 0, .slice none 0 0] 26)) := bd.alloc (Nat.le_refl _) _
  have eK : ∀ w', Below w3.heap.size w3 w' → (w'.cell? ⟨O, 2, none⟩ = some (.int .i64 ep) ∧ w'.cell? ⟨O, 3, none⟩ = some (.slice Am ms.length cm) ∧ rowAt w' w.heap.size 4 36 = some op.chg.arr) := fun w' hb =>
    ⟨(hb.cell (p := ⟨O, 2, none⟩) (by simpa using lO3)).trans c22, (hb.cell (p := ⟨O, 3, none⟩) (by simpa using lO3)).trans c23, (rowAt_below hb lw3 4 36).trans r4⟩
  go_wp2_with fail
  go_region_held3 (fun w' => w'.cell? ⟨O, 2, none⟩ = some (.int .i64 ep) ∧ w'.cell? ⟨O, 3, none⟩ = some (.slice Am ms.length cm) ∧ rowAt w' w.heap.size 4 36 = some op.chg.arr) (first | exact eK _ (by assumption) | exact eK _ bd2 | exact eK _ (bz4 _) | exact eK _ (b34.setCell (p := ⟨w3.heap.size, 0, none⟩) (Nat.le_refl _) _) | exact eK _ ((b34.setCell (p := ⟨w3.heap.size, 0, none⟩) (Nat.le_refl _) _).setCell (p := ⟨w3.heap.size, 1, none⟩) (Nat.le_refl _) _))
    (first
      | (go_at_call 50; refine (hap _ bd).mono ?_; rintro e w4 ⟨A', c', rfl, own4, ok4, hb4⟩
         have b34 := bd.trans (hb4.mono bd.size); have bz4 := fun ob : Obj => b34.alloc b34.size ob)
      | (go_at_call 50; refine (hap _ bd2).mono ?_; rintro e w4 ⟨A', c', rfl, own4, ok4, hb4⟩
         have b34 := bd2.trans (hb4.mono bd2.size); have bz4 := fun ob : Obj => b34.alloc b34.size ob
         have o0 := (hb4.cell (p := ⟨w3.heap.size, 0, none⟩) (by simp)).trans (World.cell?_alloc_at _ _ _ _ rfl)
         have o1 := (hb4.cell (p := ⟨w3.heap.size, 1, none⟩) (by simp)).trans (World.cell?_alloc_at _ _ _ _ rfl)
         have p0 := (hb4.frozen (p := ⟨w3.heap.size, 0, none⟩) (by simp)).trans (World.frozen?_alloc_at _ _ _ _ rfl)
         have p1 := (hb4.frozen (p := ⟨w3.heap.size, 1, none⟩) (by simp)).trans (World.frozen?_alloc_at _ _ _ _ rfl)
         simp at o0 o1 p0 p1))
  · have b36 := bz4 (.cells #[.int .i64 X, .slice A' ln c'] 26)
    have g0 : (w4.alloc (.cells #[.int .i64 X, .slice A' ln c'] 26)).cell? ⟨w4.heap.size, 0, none⟩ = some (.int .i64 X) := World.cell?_alloc_at _ _ _ _ rfl
    have g1 : (w4.alloc (.cells #[.int .i64 X, .slice A' ln c'] 26)).cell? ⟨w4.heap.size, 1, none⟩ = some (.slice A' ln c') := World.cell?_alloc_at _ _ _ _ rfl
    have l34 := b34.size
    have own6 : (w4.alloc (.cells #[.int .i64 X, .slice A' ln c'] 26)).ownsRow w3.heap.size 60 34 (.slice A' ln c') L.length (flatC Mb.cells L) := by rw [HLN.out]; exact World.ownsRow.alloc own4 _
    generalize w4.alloc (.cells #[.int .i64 X, .slice A' ln c'] 26) = w6 at *
    obtain ⟨f2, f3, bx⟩ := HX.out.2.setM (Nat.le_trans HB.out.2.1 HX.out.1.size) b36 own6 ok4 X
    have bw6 := HX.out.1.trans (b36.mono HX.out.1.size)
    have k2 := (b36.cell (p := ⟨O, 2, none⟩) (by simpa using lO3)).trans c22
    have k3 := (b36.cell (p := ⟨O, 3, none⟩) (by simpa using lO3)).trans c23
    have HZ := Lib.hid (And.intro bx bw6)
    have HY := Lib.hid (HX.out.2.below b36)
    have HOK := Lib.hid ok4
    have ngO : ¬ w4.heap.size = O := by omega
    have ngO' : ¬ O = w4.heap.size := by omega
    clear bx bw6 own6 ok4 b36
    by_cases hz : E = 0
    · have hz2 : (E == 0) = true := by rw [hz]; rfl
      have HEZ := Lib.hid hz
      clear hz
      go_wp2_with fail
      go_ret2
      have mz : Mv (fun k => k = O ∨ (Value.slice Ap np cp).ownBlock = some k) w ((w6.setCell ⟨O, 2, none⟩ (.int .i64 X)).setCell ⟨O, 3, none⟩ (.slice A' ln c')) :=
        ((Mv.of_below (fp := fun k => k = O ∨ (Value.slice Ap np cp).ownBlock = some k) HZ.out.2).trans (Mv.setCell (fp := fun k => k = O ∨ (Value.slice Ap np cp).ownBlock = some k) _ _ _ (.inl rfl)) (fun k _ c => c)).trans (Mv.setCell (fp := fun k => k = O ∨ (Value.slice Ap np cp).ownBlock = some k) _ _ _ (.inl rfl)) (fun k _ c => c)
      exact ⟨0, _, [], _, _, ps, X, L, rfl, HZ.out.1, ot_nil _ _, by simp, mz, rfl, rfl, by rw [HE.out.1]; exact HEZ.out.symm, .inr ⟨rfl, by rw [← HE.out.2.1, if_pos HEZ.out], HE.out.2.2.symm⟩⟩
    · have hz2 : (E == 0) = false := by rw [beq_eq_false_iff_ne]; exact hz
      have HEZ := Lib.hid hz
      clear hz
      go_wp2_with fail
      go_ret2
      exact ⟨E, _, [], _, _, ps, ep, ms, rfl, HY.out, ot_nil _ _, by simp, Mv.of_below HZ.out.2, rfl, rfl, HE.out.1.symm, .inl ⟨HEZ.out, rfl, rfl⟩⟩
  · have b36 : Below w3.heap.size w3 ((w4.setCell ⟨w3.heap.size, 0, none⟩ (.int .i64 X)).setCell ⟨w3.heap.size, 1, none⟩ (.slice A' ln c')) := (b34.setCell (p := ⟨w3.heap.size, 0, none⟩) (Nat.le_refl _) _).setCell (p := ⟨w3.heap.size, 1, none⟩) (Nat.le_refl _) _
    have own6 : ((w4.setCell ⟨w3.heap.size, 0, none⟩ (.int .i64 X)).setCell ⟨w3.heap.size, 1, none⟩ (.slice A' ln c')).ownsRow w3.heap.size 60 34 (.slice A' ln c') L.length (flatC Mb.cells L) := by
      rw [HLN.out]
      have mm : Mv (· = w3.heap.size) w4 ((w4.setCell ⟨w3.heap.size, 0, none⟩ (.int .i64 X)).setCell ⟨w3.heap.size, 1, none⟩ (.slice A' ln c')) := (Mv.setCell (fp := (· = w3.heap.size)) _ _ _ rfl).trans (Mv.setCell (fp := (· = w3.heap.size)) _ _ _ rfl) (fun _ _ c => c)
      exact own_mv (own_mono own4 (by simp)) mm (fun g hg c => by have := (own_lt own4 hg).1; simp at this; omega)
    have hb0 : w4.heap[w3.heap.size]? = some (.cells #[.int .i64 0, .slice none 0 0] 26 (0, 0)) := (hb4.block _ (by simp)).trans (heap_alloc_new w3.drew _)
    have e1 := heap_setCell_same w4 _ 0 _ _ (.int .i64 X) hb0
    have e2 := heap_setCell_same _ _ 1 _ _ (.slice A' ln c') e1
    have g0 : ((w4.setCell ⟨w3.heap.size, 0, none⟩ (.int .i64 X)).setCell ⟨w3.heap.size, 1, none⟩ (.slice A' ln c')).cell? ⟨w3.heap.size, 0, none⟩ = some (.int .i64 X) := cell_of_row e2 rfl
    have g1 : ((w4.setCell ⟨w3.heap.size, 0, none⟩ (.int .i64 X)).setCell ⟨w3.heap.size, 1, none⟩ (.slice A' ln c')).cell? ⟨w3.heap.size, 1, none⟩ = some (.slice A' ln c') := cell_of_row e2 rfl
    generalize (w4.setCell ⟨w3.heap.size, 0, none⟩ (.int .i64 X)).setCell ⟨w3.heap.size, 1, none⟩ (.slice A' ln c') = w6 at *
    obtain ⟨f2, f3, bx⟩ := HX.out.2.setM (Nat.le_trans HB.out.2.1 HX.out.1.size) b36 own6 ok4 X
    have bw6 := HX.out.1.trans (b36.mono HX.out.1.size)
    have k2 := (b36.cell (p := ⟨O, 2, none⟩) (by simpa using lO3)).trans c22
    have k3 := (b36.cell (p := ⟨O, 3, none⟩) (by simpa using lO3)).trans c23
    have HZ := Lib.hid (And.intro bx bw6)
    have HY := Lib.hid (HX.out.2.below b36)
    have HOK := Lib.hid ok4
    have ngO : ¬ w3.heap.size = O := by omega
    have ngO' : ¬ O = w3.heap.size := by omega
    clear bx bw6 own6 ok4 b36
    by_cases hz : E = 0
    · have hz2 : (E == 0) = true := by rw [hz]; rfl
      have HEZ := Lib.hid hz
      clear hz
      go_wp2_with fail
      go_ret2
      have mz : Mv (fun k => k = O ∨ (Value.slice Ap np cp).ownBlock = some k) w ((w6.setCell ⟨O, 2, none⟩ (.int .i64 X)).setCell ⟨O, 3, none⟩ (.slice A' ln c')) :=
        ((Mv.of_below (fp := fun k => k = O ∨ (Value.slice Ap np cp).ownBlock = some k) HZ.out.2).trans (Mv.setCell (fp := fun k => k = O ∨ (Value.slice Ap np cp).ownBlock = some k) _ _ _ (.inl rfl)) (fun k _ c => c)).trans (Mv.setCell (fp := fun k => k = O ∨ (Value.slice Ap np cp).ownBlock = some k) _ _ _ (.inl rfl)) (fun k _ c => c)
      exact ⟨0, _, [], _, _, ps, X, L, rfl, HZ.out.1, ot_nil _ _, by simp, mz, rfl, rfl, by rw [HE.out.1]; exact HEZ.out.symm, .inr ⟨rfl, by rw [← HE.out.2.1, if_pos HEZ.out], HE.out.2.2.symm⟩⟩
    · have hz2 : (E == 0) = false := by rw [beq_eq_false_iff_ne]; exact hz
      have HEZ := Lib.hid hz
      clear hz
      go_wp2_with fail
      go_ret2
      exact ⟨E, _, [], _, _, ps, ep, ms, rfl, HY.out, ot_nil _ _, by simp, Mv.of_below HZ.out.2, rfl, rfl, HE.out.1.symm, .inl ⟨HEZ.out, rfl, rfl⟩⟩
end Go.Proofs.YtfnfgnhbnffagaaDoor
