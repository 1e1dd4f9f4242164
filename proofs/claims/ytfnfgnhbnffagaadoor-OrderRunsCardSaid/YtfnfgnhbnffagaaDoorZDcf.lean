/-
What the question for the configuration does.
-/
import Derived.Test.YtfnfgnhbnffagaaDoorZDp
import Derived.Test.YtfnfgnhbnffagaaDoorZSi
namespace Go.Proofs.YtfnfgnhbnffagaaDoor
open Go.RowKit
set_option linter.unusedVariables false
set_option linter.unusedSimpArgs false
set_option maxRecDepth 100000
@[go_sem ↓] theorem ap_Tcf (ty : TypeId) (args : Array Value) : Builtin.append_ #[47, 47] ty args = apRow #[47, 47] ty args := rfl
def cfgP (ep : Int) (ms : List Mb) : List ByteArray := itoaB ep :: ms.map fun m => itoaB m.id
set_option maxHeartbeats 4000000 in
theorem does_cfg (B O : Nat) (vp vr vm : Value) (ps : List Pr) (rs : List Rp) (ep : Int) (ms : List Mb) (op : Opn) (w : World) (h : BoxS B O w vp vr vm ps rs ep ms) (hB : B ≤ w.heap.size) (hp : ps.length ≤ 100000) (ho : op.ok) (hk : op.kind = 6) (hmm : ms.length ≤ 90000 ∧ (Lit.int .i64 ep).wf = true ∧ Pow w) :
    Calls Tryd.prog 26 #[.pointer (some ⟨O, 0, none⟩), .agg op.arr] w (DoesEnd B O vp vr vm ps rs ep ms (fun code out ps' ep' ms' => code = 0 ∧ out = cfgP ep ms ∧ ps' = ps ∧ ep' = ep ∧ ms' = ms) w) := by
  have o0 := op.at0
  have o1 := op.at1
  have o2 := op.at2
  have o3 := op.at3
  obtain ⟨Ap, cp, hvp, sp, -⟩ := own_shape h.s.p
  obtain ⟨Ar, cr, hvr, sr, -⟩ := own_shape h.s.r
  obtain ⟨Am, cm, hvm, sm, -⟩ := own_shape h.s.m
  subst hvp hvr hvm
  obtain ⟨_, _, e1, P⟩ := PS_of_own h.s.p h.s.okp (by omega)
  cases e1
  have hrow := h.row
  have hOl := h.lt
  obtain ⟨np, hnp⟩ : ∃ n, ps.length = n := ⟨_, rfl⟩
  have hn1 : (np : Int) ≤ 100000 := by omega
  rw [hnp] at h P sp hrow ⊢
  have hBw := (Below.refl w.heap.size w).alloc (Nat.le_refl _) (.cells op.arr 44)
  have HN := Lib.hid (And.intro hnp (And.intro h (And.intro P hBw)))
  have hkl : (op.key.size : Int) ≤ 140737488355328 := by have := ho.key; omega
  rw [hk] at o0
  obtain ⟨w2, hw2⟩ : ∃ w2, w.alloc (.cells op.arr 44) = w2 := ⟨_, rfl⟩
  have hs2 : w2.heap.size = w.heap.size + 1 := by rw [← hw2]; simp
  have e0 : ∀ w', Below w2.heap.size w2 w' → rowAt w' O 0 4 = some #[.slice Ap np cp, .slice Ar rs.length cr, .int .i64 ep, .slice Am ms.length cm] := fun w' hb => by
    rw [rowAt_below hb (by omega), ← hw2, rowAt_alloc_past _ _ _ _ _ hOl]; exact hrow
  have e1 : ∀ w', Below w2.heap.size w2 w' → w'.cell? ⟨w.heap.size, 1, none⟩ = some (.string op.key) := fun w' hb => by
    rw [hb.cell (p := ⟨w.heap.size, 1, none⟩) (by simp; omega), ← hw2, World.cell?_alloc_at _ _ _ _ rfl]; exact o1
  have e2 : ∀ w', Below w2.heap.size w2 w' → w'.cell? ⟨w.heap.size, 0, none⟩ = some (.int .i64 6) := fun w' hb => by
    rw [hb.cell (p := ⟨w.heap.size, 0, none⟩) (by simp; omega), ← hw2, World.cell?_alloc_at _ _ _ _ rfl]; exact o0
  have e3 : ∀ w', Below w2.heap.size w2 w' → w'.cell? ⟨w.heap.size, 2, none⟩ = some (.string op.val) := fun w' hb => by
    rw [hb.cell (p := ⟨w.heap.size, 2, none⟩) (by simp; omega), ← hw2, World.cell?_alloc_at _ _ _ _ rfl]; exact o2
  have e4 : ∀ w', Below w2.heap.size w2 w' → w'.cell? ⟨w.heap.size, 3, none⟩ = some (.string op.old) := fun w' hb => by
    rw [hb.cell (p := ⟨w.heap.size, 3, none⟩) (by simp; omega), ← hw2, World.cell?_alloc_at _ _ _ _ rfl]; exact o3
  have hpr : ∀ w', Below w2.heap.size w2 w' → Calls Tryd.prog 46 #[.agg #[.slice Ap np cp, .slice Ar rs.length cr, .int .i64 ep, .slice Am ms.length cm], .string op.key] w' fun e w3 => e = .returned (.tuple #[.int .i64 (pairI ps op.key), .bool (pairB ps op.key)]) ∧ Below w2.heap.size w2 w3 := fun w' hb => by
    refine (pair_any _ _ Ap np cp ep ps op.key w' (P.below (hBw.trans ?_))).mono ?_
    · rw [hw2]; exact hb.mono (by omega)
    · rintro e w3 ⟨rfl, hb3⟩
      exact ⟨rfl, hb.trans (hb3.mono hb.size)⟩
  have hBw2 : Below w.heap.size w w2 := by rw [← hw2]; exact hBw
  have bd : Below w2.heap.size w2 w2.drew := (Below.refl _ _).drew
  generalize pairI ps op.key = pi at hpr
  generalize pairB ps op.key = pb at hpr
  have HM := Lib.hid hmm
  clear hmm
  have HB := Lib.hid (And.intro hBw2 (And.intro hB ho))
  clear hnp h P sp sr sm hB hp ho hBw hrow o0 o1 o2 o3 hBw2
  go_enter Tryd.func26, Tryd.ntmps26
  go_wp2_with fail
  clear hw2
  go_region_held3 (fun w' => rowAt w' O 0 4 = some #[.slice Ap np cp, .slice Ar rs.length cr, .int .i64 ep, .slice Am ms.length cm] ∧ w'.cell? ⟨w.heap.size, 1, none⟩ = some (.string op.key) ∧ Below w2.heap.size w2 w') (exact ⟨e0 _ (by assumption), e1 _ (by assumption), by assumption⟩) (first | (go_at_call 46; refine (hpr _ (by assumption)).mono ?_; rintro e w3 ⟨rfl, hb3⟩))
  have k0 := e2 _ hb3
  have hbw := HB.out.1.trans (hb3.mono HB.out.1.size)
  have hbx := HN.out.2.1.below hbw
  obtain ⟨_, _, e1', M⟩ := MS_of_own hbx.s.m hbx.s.okm (by have := HM.out.1; omega)
  cases e1'
  obtain ⟨nm, hnm⟩ : ∃ n, ms.length = n := ⟨_, rfl⟩
  rw [hnm] at M
  have c2 : w3.cell? ⟨O, 2, none⟩ = some (.int .i64 ep) := cell_of_rowAt (e0 _ hb3) 2 _ rfl
  have c3 : w3.cell? ⟨O, 3, none⟩ = some (.slice Am nm cm) := by rw [← hnm]; exact cell_of_rowAt (e0 _ hb3) 3 _ rfl
  have hit := itoa_any ep HM.out.2.1 w3 (HM.out.2.2.below hbw)
  have lO3 : O < w3.heap.size := hbx.lt
  have HX := Lib.hid (And.intro hbw (And.intro hbx (And.intro M (And.intro hnm (HM.out.2.2.below hbw)))))
  have nmb : (nm : Int) ≤ 100000 := by have := HM.out.1; omega
  clear hb3 hbw hbx M hnm
  go_wp2_with fail
  refine hit.mono ?_
  rintro e w4 ⟨rfl, hb4⟩
  have c34 := (hb4.cell (p := ⟨O, 3, none⟩) (by simpa using lO3)).trans c3
  have ho4 : OT (w4.alloc (.cells #[.string (itoaB ep)] 9)) w3.heap.size (.slice (some ⟨w4.heap.size, 0, none⟩) 1 1) [itoaB ep] :=
    own_of_block hb4.size (heap_alloc_new w4 _) (Nat.le_refl _) (by decide) rfl rfl
  have b45 : Below w4.heap.size w4 (w4.alloc (.cells #[.string (itoaB ep)] 9)) := (Below.refl _ _).alloc (Nat.le_refl _) _
  have lO4 : O < w4.heap.size := Nat.lt_of_lt_of_le lO3 hb4.size
  have HY := Lib.hid (And.intro ho4 (hb4.trans (b45.mono hb4.size)))
  clear ho4 b45 hb4 hit
  go_wp2_with fail
  clear c34
  go_loopw [8, 132] (fun s t wr => ∃ k : Nat, k ≤ nm ∧ t = .int .i64 k ∧ OT wr w3.heap.size s (cfgP ep (ms.take k)) ∧ Below w3.heap.size w3 wr) (fun _ t _ => nm - (intOf t).toNat)
  case atStart => exact ⟨0, Nat.zero_le _, rfl, HY.out.1, HY.out.2⟩
  case round =>
    clear HY
    obtain ⟨k, hk, rfl, ho, hb⟩ := hrel
    have hk0 : (0 : Int) ≤ k := by omega
    have hll : (cfgP ep (ms.take k)).length ≤ 100001 := by
      unfold cfgP
      rw [List.length_cons, List.length_map, List.length_take]
      omega
    by_cases hlt : k < nm
    · have hk1 : (k : Int) < nm := by omega
      obtain ⟨hbw, hbx, M, hnm, hpw⟩ := HX.out
      obtain ⟨b, off, rfl, hbb, hel⟩ := M.mem (by omega)
      have hr := (rowAt_below hb hbb _ _).trans (hel k hlt)
      have hmo := M.okAt hlt
      have htk : cfgP ep (ms.take (k + 1)) = cfgP ep (ms.take k) ++ [itoaB (ms.getD k default).id] := by
        unfold cfgP
        rw [List.take_succ_eq_append_getElem (by omega), List.map_append, List.getD_eq_getElem?_getD, List.getElem?_eq_getElem (by omega)]
        rfl
      generalize ms.getD k default = m at hr hmo htk
      have m0 := m.at0
      have m1 := Mb.sz hmo
      have m2 := m.ones
      have bA := (Below.refl wr.heap.size wr).alloc (Nat.le_refl _) (.cells m.arr 60)
      have hbA := hb.trans (bA.mono hb.size)
      have hit := itoa_any m.id hmo.id (wr.alloc (.cells m.arr 60)) (hpw.below hbA)
      have E := Lib.hid (And.intro (ho.below bA) (And.intro hbA htk))
      have hll' : (cfgP ep (ms.take k)).length ≤ 100000 := by
        unfold cfgP
        rw [List.length_cons, List.length_map, List.length_take]
        omega
      obtain ⟨As, cs, rfl⟩ := ot_shape ho rfl
      clear ho hb bA hbA htk hbw hbx M hnm hpw hel hmo hll
      generalize hla : (cfgP ep (ms.take k)).length = la at *
      have HLA := Lib.hid hla
      clear hla
      go_wp2_with fail
      refine hit.mono ?_
      rintro e w6 ⟨rfl, hb6⟩
      obtain ⟨v', w', r2, o2, b2⟩ := ot_push 47 (E.out.1.below hb6) (itoaB m.id) (by rw [HLA.out]; exact hll') (Nat.le_trans E.out.2.1.size hb6.size)
      have E2 := Lib.hid (And.intro o2 ((E.out.2.1.trans (hb6.mono E.out.2.1.size)).trans b2))
      obtain ⟨A2, c2', rfl⟩ := ot_shape o2 rfl
      clear o2 b2 hb6 hit
      generalize (cfgP ep (ms.take k) ++ [itoaB m.id]).length = lb at r2 E2 ⊢
      go_wp2_with fail
      go_roundw
      case rel => exact ⟨k + 1, by omega, by go_num, by rw [E.out.2.2]; exact E2.out.1, E2.out.2⟩
      case measure => simp [intOf]; omega
    · have hkn : k = nm := by omega
      rw [show ms.take k = ms by rw [hkn, ← HX.out.2.2.2.1, List.take_length]] at ho hll
      have E := Lib.hid (And.intro ho (And.intro hb hll))
      clear ho hb hll
      go_wp2_with fail
      go_ret2
      obtain ⟨ho, hb, hll⟩ := E.out
      have hbw := HX.out.1.trans (hb.mono HX.out.1.size)
      exact ⟨0, _, cfgP ep ms, _, _, ps, ep, ms, rfl, HX.out.2.1.below hb, own_mono ho HX.out.1.size, by have := HM.out.1; unfold cfgP; rw [List.length_cons, List.length_map]; omega, Mv.of_below hbw, rfl, rfl, rfl, rfl, rfl⟩
end Go.Proofs.YtfnfgnhbnffagaaDoor
