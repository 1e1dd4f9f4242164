/-
A key is put.
-/
import Derived.Test.YthaeofiplhbggaaDoorDoL
namespace Go.Proofs.YthaeofiplhbggaaDoor
open Go.RowKit
set_option linter.unusedVariables false
set_option linter.unusedSimpArgs false
set_option maxRecDepth 100000
/-- other pairs in the box -/
theorem BoxS.setP {B O : Nat} {w w' : World} {vp vp' vr vm : Value} {ps ps' : List Pr} {rs : List Rp} {ep : Int} {ms : List Mb} (h : BoxS B O w vp vr vm ps rs ep ms) (hok : OkAllP ps')
    (ho : w'.ownsRow B 51 2 vp' ps'.length (flatC Pr.cells ps')) (m : Mv (fun k => vp.ownBlock = some k) w w') (hb : vp'.ownBlock = vp.ownBlock ∨ ∃ g, vp'.ownBlock = some g ∧ w.heap.size ≤ g) :
    w'.cell? ⟨O, 0, none⟩ = some vp ∧ w'.frozen? ⟨O, 0, none⟩ = false ∧ BoxS B O (w'.setCell ⟨O, 0, none⟩ vp') vp' vr vm ps' rs ep ms := by
  have ho' : w'.heap[O]? = some (.cells #[vp, vr, .int .i64 ep, vm] 28 (0, 0)) := (m.block _ h.lt (fun c => (h.s.ap _ c).1 rfl)).trans h.o
  refine ⟨by rw [cell_of_row _ _ _ _ _ _ ho']; rfl, by simp [World.frozen?, ho'], ?_, (h.s.newP h.lt hok ho m hb).setO 0 vp'⟩
  rw [heap_setCell_same _ _ _ _ _ _ ho']; rfl
theorem flatP_set : ∀ (ps : List Pr) (i : Nat) (val : ByteArray), i < ps.length → flatC Pr.cells (ps.set i ⟨(ps.getD i default).key, val⟩) = (flatC Pr.cells ps).set (i * 2 + 1) (.string val)
  | [], i, val, h => by simp at h
  | x :: r, 0, val, h => rfl
  | x :: r, i + 1, val, h => by
    have ih := flatP_set r i val (by simpa using h)
    rw [List.set_cons_succ, flatC_cons, List.getD_cons_succ, ih, flatC_cons, show (i + 1) * 2 + 1 = (i * 2 + 1) + 1 + 1 by omega]
    rfl
theorem own_setVal {w : World} {B g cap n i : Nat} {ps : List Pr} (val : ByteArray) (h : w.ownsRow B 51 2 (.slice (some ⟨g, 0, none⟩) n cap) n (flatC Pr.cells ps)) (hl : ps.length = n) (hi : i < n) :
    w.cell? ⟨g, i * 2 + 1, none⟩ = some (.string (ps.getD i default).val) ∧ w.frozen? ⟨g, i * 2 + 1, none⟩ = false ∧
    (w.setCell ⟨g, i * 2 + 1, none⟩ (.string val)).ownsRow B 51 2 (.slice (some ⟨g, 0, none⟩) n cap) n (flatC Pr.cells (ps.set i ⟨(ps.getD i default).key, val⟩)) := by
  rcases h.2 with ⟨h0, -⟩ | ⟨g', cap', cur, e, hB, hg, hnc, hm, hs, hx⟩
  · cases h0
  · cases e
    have hlen : ∀ m ∈ ps, (Pr.cells m).length = 2 := fun _ _ => rfl
    have hlf : (flatC Pr.cells ps).length = n * 2 := by rw [flatC_length hlen, hl]
    refine ⟨?_, by simp [World.frozen?, hg], ?_⟩
    · rw [cell_of_row _ _ _ _ _ _ hg]
      have h1 := flatC_at hlen (i := i) (by omega)
      rw [← hx] at h1
      have h2 := congrArg (fun l : List Value => l[1]?) h1
      simp only [List.getElem?_take, List.getElem?_drop] at h2
      rw [if_pos (by decide), if_pos (by omega)] at h2
      rw [← Array.getElem?_toList]
      exact h2
    · rw [flatP_set ps i val (by omega)]
      refine own_of_block hB (heap_setCell_same w g _ cur 51 _ hg) hnc hm (by simpa using hs) ?_
      rw [Array.toList_setIfInBounds, List.take_set, hx]
/-- the pairs with a key put -/
def putP (ps : List Pr) (key val : ByteArray) : List Pr := if pairB ps key then ps.set (pairI ps key) ⟨(ps.getD (pairI ps key) default).key, val⟩ else ps.take (pairI ps key) ++ ⟨key, val⟩ :: ps.drop (pairI ps key)
def PutEnd (B O : Nat) (vp vr vm : Value) (ps : List Pr) (rs : List Rp) (ep : Int) (ms : List Mb) (key val : ByteArray) (w : World) (e : Ending) (w' : World) : Prop :=
  ∃ code vp' ps', e = .returned (.int .i64 code) ∧ BoxS B O w' vp' vr vm ps' rs ep ms ∧ Mv (fun k => k = O ∨ vp.ownBlock = some k) w w' ∧
    ((code = 0 ∧ ps' = putP ps key val ∧ (pairB ps key = true ∨ ps.length < 256)) ∨ (code = 11 ∧ ps' = ps ∧ pairB ps key = false ∧ 256 ≤ ps.length))
theorem put_ins (B O : Nat) (vp vr vm : Value) (ps : List Pr) (rs : List Rp) (ep : Int) (ms : List Mb) (key val : ByteArray) (w : World) (h : BoxS B O w vp vr vm ps rs ep ms) (hB : B ≤ w.heap.size) (hk : key.size ≤ 140737488355328) (hv : val.size ≤ 140737488355328) (hb : pairB ps key = false) (hl : ps.length < 256) :
    Calls Tryd.prog 27 #[.pointer (some ⟨O, 0, none⟩), .string key, .string val] w (PutEnd B O vp vr vm ps rs ep ms key val w) := by
  obtain ⟨Ap, cp, hvp, sp, -⟩ := own_shape h.s.p
  obtain ⟨Ar, cr, hvr, sr, -⟩ := own_shape h.s.r
  obtain ⟨Am, cm, hvm, sm, -⟩ := own_shape h.s.m
  subst hvp hvr hvm
  obtain ⟨_, _, e1, P⟩ := PS_of_own h.s.p h.s.okp (by omega)
  cases e1
  have hrow := h.row
  have hOl := h.lt
  obtain ⟨np, hnp⟩ : ∃ n, ps.length = n := ⟨_, rfl⟩
  have hil := pairI_le ps key
  rw [hnp] at h P sp hrow hl hil ⊢
  have hn1 : (np : Int) < 256 := by omega
  have H := Lib.hid (And.intro hnp (And.intro h (And.intro P (And.intro hb (show putP ps key val = ps.take (pairI ps key) ++ ⟨key, val⟩ :: ps.drop (pairI ps key) by unfold putP; rw [hb]; rfl)))))
  have hpr := (pair_any (.slice Ar rs.length cr) (.slice Am ms.length cm) Ap np cp ep ps key w P)
  rw [hb] at hpr
  generalize hI : pairI ps key = i at hil hpr H
  have hbs : ∀ W : World, (bsRow 22 1 #[(0, .agg #[.string key, .string val])]).run Tryd.prog W = .ok (.slice (some ⟨W.heap.size, 0, none⟩) 1 1) (W.alloc (.cells #[.string key, .string val] 51)) := fun W => bs_M1P (m := ⟨key, val⟩) ⟨hk, hv⟩ W
  have HK := Lib.hid (And.intro hk (And.intro hv hB))
  clear h P hnp hI hb sp sr sm hk hv hB
  go_enter Tryd.func27, Tryd.ntmps27
  go_wp2_with fail
  refine hpr.mono ?_
  rintro e w1 ⟨rfl, hb1⟩
  have hx1 := H.out.2.1.below hb1
  have c0 : w1.cell? ⟨O, 0, none⟩ = some (.slice Ap np cp) := cell_of_rowAt hx1.row 0 _ rfl
  have HX := Lib.hid (And.intro hb1 hx1)
  clear hpr hb1 hx1
  go_wp2_with fail
  refine (insertP (HX.out.2.s.p.alloc _) HX.out.2.s.okp (m := ⟨key, val⟩) ⟨HK.out.1, HK.out.2.1⟩ (by rw [H.out.1]; exact hil) (by rw [H.out.1]; omega) (by have := HX.out.1.size; have := HK.out.2.2; simp; omega) (heap_alloc_new w1 _) (fun e => by have := (own_lt HX.out.2.s.p e).2; omega)).mono ?_
  rintro e w2 ⟨v', rfl, own2, gr2, hat⟩
  have hl2 : ps.length + 1 = (ps.take i ++ (⟨key, val⟩ : Pr) :: ps.drop i).length := by
    have := H.out.1
    rw [List.length_append, List.length_cons, List.length_take, List.length_drop]; omega
  rw [hl2] at own2
  have hok2 : OkAllP (ps.take i ++ (⟨key, val⟩ : Pr) :: ps.drop i) := fun y hy => by
    rcases List.mem_append.1 hy with hy | hy
    · exact HX.out.2.s.okp y (List.mem_of_mem_take hy)
    · rcases List.mem_cons.1 hy with rfl | hy
      · exact ⟨HK.out.1, HK.out.2.1⟩
      · exact HX.out.2.s.okp y (List.mem_of_mem_drop hy)
  have mv2 : Mv (fun k => (Value.slice Ap np cp).ownBlock = some k) w1 w2 := (Mv.alloc w1 _).trans (Mv.of_grown (fp := fun k => (Value.slice Ap np cp).ownBlock = some k) gr2 (fun k hk => hk)) (fun _ _ c => c)
  obtain ⟨c2, f2, bx2⟩ := HX.out.2.setP hok2 own2 mv2 (hat.imp id (fun ⟨g, h1, h2⟩ => ⟨g, h1, by simp at h2; omega⟩))
  obtain ⟨A2, c2', rfl, -⟩ := own_shape own2
  have hfin := Lib.hid (show PutEnd B O (.slice Ap np cp) (.slice Ar rs.length cr) (.slice Am ms.length cm) ps rs ep ms key val w (.returned (.int .i64 0)) (w2.setCell ⟨O, 0, none⟩ (.slice A2 (ps.take i ++ (⟨key, val⟩ : Pr) :: ps.drop i).length c2')) from
    ⟨0, _, _, rfl, bx2, ((Mv.of_below HX.out.1).trans (mv2.mono (fun k _ c => Or.inr c)) (fun k _ c => c)).trans (Mv.setCell _ _ _ (.inl rfl)) (fun k _ c => c), .inl ⟨rfl, H.out.2.2.2.2.symm, .inr (by rw [H.out.1]; omega)⟩⟩)
  clear own2 gr2 hat hok2 mv2 bx2 hl2 c0
  generalize (ps.take i ++ (⟨key, val⟩ : Pr) :: ps.drop i).length = nl at hfin ⊢
  go_wp2_with fail
  go_ret
  exact hfin.out
set_option maxHeartbeats 1000000 in
theorem put_set (B O : Nat) (vp vr vm : Value) (ps : List Pr) (rs : List Rp) (ep : Int) (ms : List Mb) (key val : ByteArray) (w : World) (h : BoxS B O w vp vr vm ps rs ep ms) (hB : B ≤ w.heap.size) (hv : val.size ≤ 140737488355328) (hb : pairB ps key = true) (hl : ps.length ≤ 100000) :
    Calls Tryd.prog 27 #[.pointer (some ⟨O, 0, none⟩), .string key, .string val] w (PutEnd B O vp vr vm ps rs ep ms key val w) := by
  obtain ⟨Ap, cp, hvp, sp, hA⟩ := own_shape h.s.p
  obtain ⟨Ar, cr, hvr, sr, -⟩ := own_shape h.s.r
  obtain ⟨Am, cm, hvm, sm, -⟩ := own_shape h.s.m
  subst hvp hvr hvm
  obtain ⟨_, _, e1, P⟩ := PS_of_own h.s.p h.s.okp (by omega)
  cases e1
  have hrow := h.row
  have hOl := h.lt
  obtain ⟨np, hnp⟩ : ∃ n, ps.length = n := ⟨_, rfl⟩
  have hil := pairB_lt hb
  rw [hnp] at h P sp hrow hl hil hA ⊢
  obtain ⟨g, off, rfl, hgl, -⟩ := P.mem (by omega)
  obtain ⟨hg, rfl, -⟩ := hA _ _ _ rfl
  have hn1 : (np : Int) ≤ 100000 := by omega
  have hpr := (pair_any (.slice Ar rs.length cr) (.slice Am ms.length cm) (some ⟨g, 0, none⟩) np cp ep ps key w P)
  rw [hb] at hpr
  have H := Lib.hid (And.intro hnp (And.intro h (And.intro hb (show putP ps key val = ps.set (pairI ps key) ⟨(ps.getD (pairI ps key) default).key, val⟩ by unfold putP; rw [if_pos hb]))))
  generalize hI : pairI ps key = i at hil hpr H
  have hi1 : (i : Int) < np := by omega
  have hi0 : ¬ (i : Int) < 0 := by omega
  have HK := Lib.hid (And.intro hv (And.intro hB hg))
  clear h P hnp hI hb sp sr sm hv hB hg hA
  go_enter Tryd.func27, Tryd.ntmps27
  go_wp2_with fail
  refine hpr.mono ?_
  rintro e w1 ⟨rfl, hb1⟩
  have hx1 := H.out.2.1.below hb1
  have c0 : w1.cell? ⟨O, 0, none⟩ = some (.slice (some ⟨g, 0, none⟩) np cp) := cell_of_rowAt hx1.row 0 _ rfl
  obtain ⟨c1, f1, o1⟩ := own_setVal val (by have := hx1.s.p; rw [H.out.1] at this; exact this) H.out.1 hil
  have hfin := Lib.hid (show PutEnd B O (.slice (some ⟨g, 0, none⟩) np cp) (.slice Ar rs.length cr) (.slice Am ms.length cm) ps rs ep ms key val w (.returned (.int .i64 0)) (w1.setCell ⟨g, i * 2 + 1, none⟩ (.string val)) from by
    have hgO : g ≠ O := (hx1.s.ap g HK.out.2.2).1
    have hm : Mv (fun k => (Value.slice (some ⟨g, 0, none⟩) np cp).ownBlock = some k) w1 (w1.setCell ⟨g, i * 2 + 1, none⟩ (.string val)) := Mv.setCell _ _ _ HK.out.2.2
    refine ⟨0, _, _, rfl, ⟨?_, hx1.s.newP hx1.lt (ps' := ps.set i ⟨(ps.getD i default).key, val⟩) (fun y hy => ?_) ?_ hm (.inl rfl)⟩, (Mv.of_below hb1).trans (hm.mono (fun k _ c => Or.inr c)) (fun k _ c => c), .inl ⟨rfl, H.out.2.2.2.symm, .inl H.out.2.2.1⟩⟩
    · rw [heap_setCell_other _ _ _ _ (by simpa using fun c => hgO c.symm)]; exact hx1.o
    · rcases List.mem_or_eq_of_mem_set hy with hy | rfl
      · exact hx1.s.okp y hy
      · exact ⟨(hx1.s.okp (ps.getD i default) (by rw [List.getD_eq_getElem?_getD, List.getElem?_eq_getElem (by have := H.out.1; omega)]; exact List.getElem_mem _)).k, HK.out.1⟩
    · rw [List.length_set, H.out.1]; exact o1)
  clear hpr hb1 hx1 o1
  go_wp2_with fail
  go_ret
  exact hfin.out
set_option maxHeartbeats 1000000 in
theorem put_many (B O : Nat) (vp vr vm : Value) (ps : List Pr) (rs : List Rp) (ep : Int) (ms : List Mb) (key val : ByteArray) (w : World) (h : BoxS B O w vp vr vm ps rs ep ms) (hb : pairB ps key = false) (hl : ps.length ≤ 100000) (hq : 256 ≤ ps.length) :
    Calls Tryd.prog 27 #[.pointer (some ⟨O, 0, none⟩), .string key, .string val] w (PutEnd B O vp vr vm ps rs ep ms key val w) := by
  obtain ⟨Ap, cp, hvp, sp, -⟩ := own_shape h.s.p
  obtain ⟨Ar, cr, hvr, sr, -⟩ := own_shape h.s.r
  obtain ⟨Am, cm, hvm, sm, -⟩ := own_shape h.s.m
  subst hvp hvr hvm
  obtain ⟨_, _, e1, P⟩ := PS_of_own h.s.p h.s.okp (by omega)
  cases e1
  have hrow := h.row
  obtain ⟨np, hnp⟩ : ∃ n, ps.length = n := ⟨_, rfl⟩
  rw [hnp] at h P sp hrow hl hq ⊢
  have hn1 : (np : Int) ≤ 100000 := by omega
  have hn2 : (256 : Int) ≤ np := by omega
  have hpr := (pair_any (.slice Ar rs.length cr) (.slice Am ms.length cm) Ap np cp ep ps key w P)
  rw [hb] at hpr
  have H := Lib.hid (And.intro hnp (And.intro h (And.intro hb hq)))
  generalize hI : pairI ps key = i at hpr
  clear h P hnp hI hb sp sr sm
  go_enter Tryd.func27, Tryd.ntmps27
  go_wp2_with fail
  refine hpr.mono ?_
  rintro e w1 ⟨rfl, hb1⟩
  have hx1 := H.out.2.1.below hb1
  have c0 : w1.cell? ⟨O, 0, none⟩ = some (.slice Ap np cp) := cell_of_rowAt hx1.row 0 _ rfl
  have HX := Lib.hid (And.intro hb1 hx1)
  clear hpr hb1 hx1
  go_wp2_with fail
  go_ret
  exact ⟨11, _, _, rfl, HX.out.2, Mv.of_below HX.out.1, .inr ⟨rfl, rfl, H.out.2.2.1, by rw [H.out.1]; exact H.out.2.2.2⟩⟩
theorem put_any (B O : Nat) (vp vr vm : Value) (ps : List Pr) (rs : List Rp) (ep : Int) (ms : List Mb) (key val : ByteArray) (w : World) (h : BoxS B O w vp vr vm ps rs ep ms) (hB : B ≤ w.heap.size) (hk : key.size ≤ 140737488355328) (hv : val.size ≤ 140737488355328) (hl : ps.length ≤ 100000) :
    Calls Tryd.prog 27 #[.pointer (some ⟨O, 0, none⟩), .string key, .string val] w (PutEnd B O vp vr vm ps rs ep ms key val w) := by
  cases hb : pairB ps key
  · by_cases hq : 256 ≤ ps.length
    · exact put_many B O vp vr vm ps rs ep ms key val w h hb hl hq
    · exact put_ins B O vp vr vm ps rs ep ms key val w h hB hk hv hb (by omega)
  · exact put_set B O vp vr vm ps rs ep ms key val w h hB hv hb hl
end Go.Proofs.YthaeofiplhbggaaDoor
