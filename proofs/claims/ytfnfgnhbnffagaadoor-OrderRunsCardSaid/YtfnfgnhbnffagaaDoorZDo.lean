/-
What a list does.
-/
import Derived.Test.YtfnfgnhbnffagaaDoorZInz
namespace Go.Proofs.YtfnfgnhbnffagaaDoor
open Go.RowKit
set_option linter.unusedVariables false
set_option linter.unusedSimpArgs false
set_option maxRecDepth 100000
@[go_sem ↓] theorem ap_Td (ty : TypeId) (args : Array Value) : Builtin.append_ #[47, 47] ty args = apRow #[47, 47] ty args := rfl
def hasPre (s p : ByteArray) : Bool := decide (p.size ≤ s.size) && ((s.extract 0 p.size).toList == p.toList)
theorem sHasPrefix_any (s p : ByteArray) (w : World) (h1 : (s.size : Int) ≤ 140737488355328) (h2 : (p.size : Int) ≤ 140737488355328) : Calls Tryd.prog 67 #[.string s, .string p] w fun e w' => e = .returned (.bool (hasPre s p)) ∧ w = w' := by
  by_cases hl : p.size ≤ s.size
  · have hli : (p.size : Int) ≤ s.size := by omega
    go_enter Tryd.func67, Tryd.ntmps67
    go_wp2_with fail
    go_ret
    refine ⟨?_, rfl⟩
    unfold hasPre
    rw [decide_eq_true hl, Bool.true_and]
    rfl
  · have hli : ¬ (p.size : Int) ≤ s.size := by omega
    go_enter Tryd.func67, Tryd.ntmps67
    go_wp2_with fail
    go_ret
    refine ⟨?_, rfl⟩
    unfold hasPre
    rw [decide_eq_false hl, Bool.false_and]
    rfl
theorem hasPrefix_any (s p : ByteArray) (w : World) (h1 : (s.size : Int) ≤ 140737488355328) (h2 : (p.size : Int) ≤ 140737488355328) : Calls Tryd.prog 49 #[.string s, .string p] w fun e w' => e = .returned (.bool (hasPre s p)) ∧ w = w' := by
  go_enter Tryd.func49, Tryd.ntmps49
  go_wp2_with fail
  refine (sHasPrefix_any s p _ h1 h2).mono ?_
  rintro e w' ⟨rfl, rfl⟩
  go_wp2_with fail
  go_ret
  exact ⟨rfl, rfl⟩
/-- the keys that begin so -/
def listP (ps : List Pr) (k : ByteArray) : List ByteArray := (ps.map Pr.key).filter fun s => hasPre s k
/-- the box of a registry of one's own -/
structure BoxS (B O : Nat) (w : World) (vp vr vm : Value) (ps : List Pr) (rs : List Rp) (ep : Int) (ms : List Mb) : Prop where
  o : w.heap[O]? = some (.cells #[vp, vr, .int .i64 ep, vm] 28 (0, 0))
  s : OwnS B O w vp vr vm ps rs ms
theorem BoxS.lt {B O : Nat} {w : World} {vp vr vm : Value} {ps : List Pr} {rs : List Rp} {ep : Int} {ms : List Mb} (h : BoxS B O w vp vr vm ps rs ep ms) : O < w.heap.size := (Array.getElem?_eq_some_iff.1 h.o).1
theorem BoxS.below {B O : Nat} {w w' : World} {vp vr vm : Value} {ps : List Pr} {rs : List Rp} {ep : Int} {ms : List Mb} (h : BoxS B O w vp vr vm ps rs ep ms) (hb : Below w.heap.size w w') : BoxS B O w' vp vr vm ps rs ep ms :=
  ⟨(hb.block _ h.lt).trans h.o, h.s.below hb⟩
theorem BoxS.row {B O : Nat} {w : World} {vp vr vm : Value} {ps : List Pr} {rs : List Rp} {ep : Int} {ms : List Mb} (h : BoxS B O w vp vr vm ps rs ep ms) : rowAt w O 0 4 = some #[vp, vr, .int .i64 ep, vm] := by
  unfold rowAt
  rw [h.o]
  exact cut_all _ _ rfl
/-- what an operation answers: the box and the pairs' row may have turned -/
def DoesEnd (B O : Nat) (vp vr vm : Value) (ps : List Pr) (rs : List Rp) (ep : Int) (ms : List Mb) (D : Int → List ByteArray → List Pr → Int → List Mb → Prop) (w : World) (e : Ending) (w' : World) : Prop :=
  ∃ code vals out vp' vm' ps' ep' ms', e = .returned (.tuple #[.int .i64 code, vals]) ∧ BoxS B O w' vp' vr vm' ps' rs ep' ms' ∧ OT w' w.heap.size vals out ∧ out.length ≤ 100000 ∧ Mv (fun k => k = O ∨ vp.ownBlock = some k) w w' ∧ D code out ps' ep' ms'
set_option maxHeartbeats 4000000 in
theorem does_list (B O : Nat) (vp vr vm : Value) (ps : List Pr) (rs : List Rp) (ep : Int) (ms : List Mb) (op : Opn) (w : World) (h : BoxS B O w vp vr vm ps rs ep ms) (hB : B ≤ w.heap.size) (hp : ps.length ≤ 100000) (ho : op.ok) (hk : op.kind = 5) :
    Calls Tryd.prog 26 #[.pointer (some ⟨O, 0, none⟩), .agg op.arr] w (DoesEnd B O vp vr vm ps rs ep ms (fun code out ps' ep' ms' => code = 0 ∧ out = listP ps op.key ∧ ps' = ps ∧ ep' = ep ∧ ms' = ms) w) := by
  have o0 := op.at0
  have o1 := op.at1
  obtain ⟨Ap, cp, hvp, sp, -⟩ := own_shape h.s.p
  obtain ⟨Ar, cr, hvr, sr, -⟩ := own_shape h.s.r
  obtain ⟨Am, cm, hvm, sm, -⟩ := own_shape h.s.m
  subst hvp hvr hvm
  obtain ⟨_, _, e1, P⟩ := PS_of_own h.s.p h.s.okp (by omega)
  cases e1
  have hrow := h.row
  have hOl := h.lt
  obtain ⟨np, hnp⟩ : ∃ n, ps.length = n := ⟨_, rfl⟩
  have hn1 : (np : Int) ≤ 100000 := by omega
  rw [hnp] at h P sp hrow ⊢
  have hBw := (Below.refl w.heap.size w).alloc (Nat.le_refl _) (.cells op.arr 44)
  have HN := Lib.hid (And.intro hnp (And.intro h (And.intro P hBw)))
  have hkl : (op.key.size : Int) ≤ 140737488355328 := by have := ho.key; omega
  rw [hk] at o0
  obtain ⟨w2, hw2⟩ : ∃ w2, w.alloc (.cells op.arr 44) = w2 := ⟨_, rfl⟩
  have hs2 : w2.heap.size = w.heap.size + 1 := by rw [← hw2]; simp
  have e0 : ∀ w', Below w2.heap.size w2 w' → rowAt w' O 0 4 = some #[.slice Ap np cp, .slice Ar rs.length cr, .int .i64 ep, .slice Am ms.length cm] := fun w' hb => by
    rw [rowAt_below hb (by omega), ← hw2, rowAt_alloc_past _ _ _ _ _ hOl]; exact hrow
  have e1 : ∀ w', Below w2.heap.size w2 w' → w'.cell? ⟨w.heap.size, 1, none⟩ = some (.string op.key) := fun w' hb => by
    rw [hb.cell (p := ⟨w.heap.size, 1, none⟩) (by simp; omega), ← hw2, World.cell?_alloc_at _ _ _ _ rfl]; exact o1
  have e2 : ∀ w', Below w2.heap.size w2 w' → w'.cell? ⟨w.heap.size, 0, none⟩ = some (.int .i64 5) := fun w' hb => by
    rw [hb.cell (p := ⟨w.heap.size, 0, none⟩) (by simp; omega), ← hw2, World.cell?_alloc_at _ _ _ _ rfl]; exact o0
  have hpr : ∀ w', Below w2.heap.size w2 w' → Calls Tryd.prog 46 #[.agg #[.slice Ap np cp, .slice Ar rs.length cr, .int .i64 ep, .slice Am ms.length cm], .string op.key] w' fun e w3 => e = .returned (.tuple #[.int .i64 (pairI ps op.key), .bool (pairB ps op.key)]) ∧ Below w2.heap.size w2 w3 := fun w' hb => by
    refine (pair_any _ _ Ap np cp ep ps op.key w' (P.below (hBw.trans ?_))).mono ?_
    · rw [hw2]; exact hb.mono (by omega)
    · rintro e w3 ⟨rfl, hb3⟩
      exact ⟨rfl, hb.trans (hb3.mono hb.size)⟩
  have hBw2 : Below w.heap.size w w2 := by rw [← hw2]; exact hBw
  have bd : Below w2.heap.size w2 w2.drew := (Below.refl _ _).drew
  generalize pairI ps op.key = pi at hpr
  generalize pairB ps op.key = pb at hpr
  have HB := Lib.hid hBw2
  clear hnp h P sp sr sm hB hp ho hBw hrow o0 o1 hBw2
  go_enter Tryd.func26, Tryd.ntmps26
  go_wp2_with fail
  clear hw2
  go_region_held3 (fun w' => rowAt w' O 0 4 = some #[.slice Ap np cp, .slice Ar rs.length cr, .int .i64 ep, .slice Am ms.length cm] ∧ w'.cell? ⟨w.heap.size, 1, none⟩ = some (.string op.key) ∧ Below w2.heap.size w2 w') (exact ⟨e0 _ (by assumption), e1 _ (by assumption), by assumption⟩) (first | (go_at_call 46; refine (hpr _ (by assumption)).mono ?_; rintro e w3 ⟨rfl, hb3⟩))
  have k0 := e2 _ hb3
  have c0 : w3.cell? ⟨O, 0, none⟩ = some (.slice Ap np cp) := cell_of_rowAt (e0 _ hb3) 0 _ rfl
  go_wp2_with fail
  clear k0 c0
  have HP3 := Lib.hid hb3
  clear hb3
  go_loopw [8, 102] (fun s t wr => ∃ k : Nat, k ≤ np ∧ t = .int .i64 k ∧ OT wr w2.heap.size s (listP (ps.take k) op.key) ∧ Below w2.heap.size w2 wr) (fun _ t _ => np - (intOf t).toNat)
  case atStart => exact ⟨0, Nat.zero_le _, rfl, ot_nil _ _, HP3.out⟩
  case round =>
    obtain ⟨k, hk, rfl, ho, hb⟩ := hrel
    have hk0 : (0 : Int) ≤ k := by omega
    have hll : (listP (ps.take k) op.key).length ≤ 100000 := by
      have h1 : (listP (ps.take k) op.key).length ≤ ((ps.take k).map Pr.key).length := List.length_filter_le ..
      rw [List.length_map, List.length_take] at h1
      omega
    by_cases hlt : k < np
    · have hk1 : (k : Int) < np := by omega
      obtain ⟨hnp, hbx, P, hBw⟩ := HN.out
      obtain ⟨b, off, rfl, hbb, hel⟩ := P.mem (by omega)
      have hr := (rowAt_below (HB.out.trans (hb.mono HB.out.size)) hbb _ _).trans (hel k hlt)
      have hokk := P.okAt hlt
      have htk : listP (ps.take (k + 1)) op.key = listP (ps.take k) op.key ++ (if hasPre (ps.getD k default).key op.key = true then [(ps.getD k default).key] else []) := by
        unfold listP
        rw [List.take_succ_eq_append_getElem (by omega), List.map_append, List.filter_append, List.getD_eq_getElem?_getD, List.getElem?_eq_getElem (by omega)]
        congr 1
        simp only [List.map_cons, List.map_nil, List.filter_cons, List.filter_nil, Option.getD_some]
      generalize ps.getD k default = x at hr hokk htk
      obtain ⟨key, val⟩ := x
      replace hr : rowAt wr b (off + k * 2) 2 = some #[.string key, .string val] := hr
      have hkk : (key.size : Int) ≤ 140737488355328 := by have : key.size ≤ 140737488355328 := hokk.k; omega
      have c1 := e1 _ hb
      have hlw : w.heap.size < wr.heap.size := by have := hb.size; omega
      have bA := (Below.refl wr.heap.size wr).alloc (Nat.le_refl _) (.cells #[.string key, .string val] 75)
      have hbA := hb.trans (bA.mono hb.size)
      clear hnp hbx P hBw hel hokk
      cases hpre : hasPre key op.key
      · have E := Lib.hid (And.intro (ho.below bA) (And.intro hbA (show listP (ps.take (k + 1)) op.key = listP (ps.take k) op.key by rw [htk]; simp [hpre])))
        have HPR := Lib.hid hpre
        clear ho hb bA hbA htk hpre HP3
        go_wp2_with fail
        refine (hasPrefix_any key op.key _ hkk hkl).mono ?_
        rw [HPR.out]
        rintro e w4 ⟨rfl, rfl⟩
        go_wp2_with fail
        go_roundw
        case rel => exact ⟨k + 1, by omega, by go_num, by rw [E.out.2.2]; exact E.out.1, E.out.2.1⟩
        case measure => simp [intOf]; omega
      · have o1 := ho.below bA
        obtain ⟨v', w', r2, o2, b2⟩ := ot_push 47 o1 key hll hbA.size
        rw [World.size_alloc] at r2
        obtain ⟨As, cs, rfl⟩ := ot_shape o1 rfl
        have E := Lib.hid (And.intro o2 (And.intro (hbA.trans b2) (show listP (ps.take (k + 1)) op.key = listP (ps.take k) op.key ++ [key] by rw [htk]; simp [hpre])))
        have HPR := Lib.hid hpre
        clear ho hb bA hbA htk hpre HP3 o1 o2 b2 hll
        generalize (listP (ps.take k) op.key).length = la at r2 ⊢
        go_wp2_with fail
        refine (hasPrefix_any key op.key _ hkk hkl).mono ?_
        rw [HPR.out]
        rintro e w4 ⟨rfl, rfl⟩
        go_wp2_with fail
        go_roundw
        case rel => exact ⟨k + 1, by omega, by go_num, by rw [E.out.2.2]; exact E.out.1, E.out.2.1⟩
        case measure => simp [intOf]; omega
    · have hkn : k = np := by omega
      have hnp := HN.out.1
      rw [show ps.take k = ps by rw [hkn, ← hnp, List.take_length]] at ho hll
      have E := Lib.hid (And.intro ho (And.intro hb (And.intro hll hnp)))
      clear ho hb hll hnp
      go_wp2_with fail
      go_ret2
      obtain ⟨ho, hb, hll, hnp⟩ := E.out
      have hbw := HB.out.trans (hb.mono HB.out.size)
      exact ⟨0, _, listP ps op.key, _, _, ps, ep, ms, rfl, HN.out.2.1.below hbw, own_mono ho HB.out.size, hll, Mv.of_below hbw, rfl, rfl, rfl, rfl, rfl⟩
end Go.Proofs.YtfnfgnhbnffagaaDoor

/-
A key is put.
-/
namespace Go.Proofs.YtfnfgnhbnffagaaDoor
open Go.RowKit
set_option linter.unusedVariables false
set_option linter.unusedSimpArgs false
set_option maxRecDepth 100000
/-- other pairs in the box -/
theorem BoxS.setP {B O : Nat} {w w' : World} {vp vp' vr vm : Value} {ps ps' : List Pr} {rs : List Rp} {ep : Int} {ms : List Mb} (h : BoxS B O w vp vr vm ps rs ep ms) (hok : OkAllP ps')
    (ho : w'.ownsRow B 75 2 vp' ps'.length (flatC Pr.cells ps')) (m : Mv (fun k => vp.ownBlock = some k) w w') (hb : vp'.ownBlock = vp.ownBlock ∨ ∃ g, vp'.ownBlock = some g ∧ w.heap.size ≤ g) :
    w'.cell? ⟨O, 0, none⟩ = some vp ∧ w'.frozen? ⟨O, 0, none⟩ = false ∧ BoxS B O (w'.setCell ⟨O, 0, none⟩ vp') vp' vr vm ps' rs ep ms := by
  have ho' : w'.heap[O]? = some (.cells #[vp, vr, .int .i64 ep, vm] 28 (0, 0)) := (m.block _ h.lt (fun c => (h.s.ap _ c).1 rfl)).trans h.o
  refine ⟨by rw [cell_of_row _ _ _ _ _ _ ho']; rfl, by simp [World.frozen?, ho'], ?_, (h.s.newP h.lt hok ho m hb).setO 0 vp'⟩
  rw [heap_setCell_same _ _ _ _ _ _ ho']; rfl
theorem flatP_set : ∀ (ps : List Pr) (i : Nat) (val : ByteArray), i < ps.length → flatC Pr.cells (ps.set i ⟨(ps.getD i default).key, val⟩) = (flatC Pr.cells ps).set (i * 2 + 1) (.string val)
  | [], i, val, h => by simp at h
  | x :: r, 0, val, h => rfl
  | x :: r, i + 1, val, h => by
    have ih := flatP_set r i val (by simpa using h)
    rw [List.set_cons_succ, flatC_cons, List.getD_cons_succ, ih, flatC_cons, show (i + 1) * 2 + 1 = (i * 2 + 1) + 1 + 1 by omega]
    rfl
theorem own_setVal {w : World} {B g cap n i : Nat} {ps : List Pr} (val : ByteArray) (h : w.ownsRow B 75 2 (.slice (some ⟨g, 0, none⟩) n cap) n (flatC Pr.cells ps)) (hl : ps.length = n) (hi : i < n) :
    w.cell? ⟨g, i * 2 + 1, none⟩ = some (.string (ps.getD i default).val) ∧ w.frozen? ⟨g, i * 2 + 1, none⟩ = false ∧
    (w.setCell ⟨g, i * 2 + 1, none⟩ (.string val)).ownsRow B 75 2 (.slice (some ⟨g, 0, none⟩) n cap) n (flatC Pr.cells (ps.set i ⟨(ps.getD i default).key, val⟩)) := by
  rcases h.2 with ⟨h0, -⟩ | ⟨g', cap', cur, e, hB, hg, hnc, hm, hs, hx⟩
  · cases h0
  · cases e
    have hlen : ∀ m ∈ ps, (Pr.cells m).length = 2 := fun _ _ => rfl
    have hlf : (flatC Pr.cells ps).length = n * 2 := by rw [flatC_length hlen, hl]
    refine ⟨?_, by simp [World.frozen?, hg], ?_⟩
    · rw [cell_of_row _ _ _ _ _ _ hg]
      have h1 := flatC_at hlen (i := i) (by omega)
      rw [← hx] at h1
      have h2 := congrArg (fun l : List Value => l[1]?) h1
      simp only [List.getElem?_take, List.getElem?_drop] at h2
      rw [if_pos (by decide), if_pos (by omega)] at h2
      rw [← Array.getElem?_toList]
      exact h2
    · rw [flatP_set ps i val (by omega)]
      refine own_of_block hB (heap_setCell_same w g _ cur 75 _ hg) hnc hm (by simpa using hs) ?_
      rw [Array.toList_setIfInBounds, List.take_set, hx]
/-- the pairs with a key put -/
def putP (ps : List Pr) (key val : ByteArray) : List Pr := if pairB ps key then ps.set (pairI ps key) ⟨(ps.getD (pairI ps key) default).key, val⟩ else ps.take (pairI ps key) ++ ⟨key, val⟩ :: ps.drop (pairI ps key)
def PutEnd (B O : Nat) (vp vr vm : Value) (ps : List Pr) (rs : List Rp) (ep : Int) (ms : List Mb) (key val : ByteArray) (w : World) (e : Ending) (w' : World) : Prop :=
  ∃ code vp' ps', e = .returned (.int .i64 code) ∧ BoxS B O w' vp' vr vm ps' rs ep ms ∧ Mv (fun k => k = O ∨ vp.ownBlock = some k) w w' ∧
    ((code = 0 ∧ ps' = putP ps key val ∧ (pairB ps key = true ∨ ps.length < 256)) ∨ (code = 11 ∧ ps' = ps ∧ pairB ps key = false ∧ 256 ≤ ps.length))
theorem put_ins (B O : Nat) (vp vr vm : Value) (ps : List Pr) (rs : List Rp) (ep : Int) (ms : List Mb) (key val : ByteArray) (w : World) (h : BoxS B O w vp vr vm ps rs ep ms) (hB : B ≤ w.heap.size) (hk : key.size ≤ 140737488355328) (hv : val.size ≤ 140737488355328) (hb : pairB ps key = false) (hl : ps.length < 256) :
    Calls Tryd.prog 47 #[.pointer (some ⟨O, 0, none⟩), .string key, .string val] w (PutEnd B O vp vr vm ps rs ep ms key val w) := by
  obtain ⟨Ap, cp, hvp, sp, -⟩ := own_shape h.s.p
  obtain ⟨Ar, cr, hvr, sr, -⟩ := own_shape h.s.r
  obtain ⟨Am, cm, hvm, sm, -⟩ := own_shape h.s.m
  subst hvp hvr hvm
  obtain ⟨_, _, e1, P⟩ := PS_of_own h.s.p h.s.okp (by omega)
  cases e1
  have hrow := h.row
  have hOl := h.lt
  obtain ⟨np, hnp⟩ : ∃ n, ps.length = n := ⟨_, rfl⟩
  have hil := pairI_le ps key
  rw [hnp] at h P sp hrow hl hil ⊢
  have hn1 : (np : Int) < 256 := by omega
  have H := Lib.hid (And.intro hnp (And.intro h (And.intro P (And.intro hb (show putP ps key val = ps.take (pairI ps key) ++ ⟨key, val⟩ :: ps.drop (pairI ps key) by unfold putP; rw [hb]; rfl)))))
  have hpr := (pair_any (.slice Ar rs.length cr) (.slice Am ms.length cm) Ap np cp ep ps key w P)
  rw [hb] at hpr
  generalize hI : pairI ps key = i at hil hpr H
  have hbs : ∀ W : World, (bsRow 22 1 #[(0, .agg #[.string key, .string val])]).run Tryd.prog W = .ok (.slice (some ⟨W.heap.size, 0, none⟩) 1 1) (W.alloc (.cells #[.string key, .string val] 75)) := fun W => bs_M1P (m := ⟨key, val⟩) ⟨hk, hv⟩ W
  have HK := Lib.hid (And.intro hk (And.intro hv hB))
  clear h P hnp hI hb sp sr sm hk hv hB
  go_enter Tryd.func47, Tryd.ntmps47
  go_wp2_with fail
  refine hpr.mono ?_
  rintro e w1 ⟨rfl, hb1⟩
  have hx1 := H.out.2.1.below hb1
  have c0 : w1.cell? ⟨O, 0, none⟩ = some (.slice Ap np cp) := cell_of_rowAt hx1.row 0 _ rfl
  have HX := Lib.hid (And.intro hb1 hx1)
  clear hpr hb1 hx1
  go_wp2_with fail
  refine (insertP (HX.out.2.s.p.alloc _) HX.out.2.s.okp (m := ⟨key, val⟩) ⟨HK.out.1, HK.out.2.1⟩ (by rw [H.out.1]; exact hil) (by rw [H.out.1]; omega) (by have := HX.out.1.size; have := HK.out.2.2; simp; omega) (heap_alloc_new w1 _) (fun e => by have := (own_lt HX.out.2.s.p e).2; omega)).mono ?_
  rintro e w2 ⟨v', rfl, own2, gr2, hat⟩
  have hl2 : ps.length + 1 = (ps.take i ++ (⟨key, val⟩ : Pr) :: ps.drop i).length := by
    have := H.out.1
    rw [List.length_append, List.length_cons, List.length_take, List.length_drop]; omega
  rw [hl2] at own2
  have hok2 : OkAllP (ps.take i ++ (⟨key, val⟩ : Pr) :: ps.drop i) := fun y hy => by
    rcases List.mem_append.1 hy with hy | hy
    · exact HX.out.2.s.okp y (List.mem_of_mem_take hy)
    · rcases List.mem_cons.1 hy with rfl | hy
      · exact ⟨HK.out.1, HK.out.2.1⟩
      · exact HX.out.2.s.okp y (List.mem_of_mem_drop hy)
  have mv2 : Mv (fun k => (Value.slice Ap np cp).ownBlock = some k) w1 w2 := (Mv.alloc w1 _).trans (Mv.of_grown (fp := fun k => (Value.slice Ap np cp).ownBlock = some k) gr2 (fun k hk => hk)) (fun _ _ c => c)
  obtain ⟨c2, f2, bx2⟩ := HX.out.2.setP hok2 own2 mv2 (hat.imp id (fun ⟨g, h1, h2⟩ => ⟨g, h1, by simp at h2; omega⟩))
  obtain ⟨A2, c2', rfl, -⟩ := own_shape own2
  have hfin := Lib.hid (show PutEnd B O (.slice Ap np cp) (.slice Ar rs.length cr) (.slice Am ms.length cm) ps rs ep ms key val w (.returned (.int .i64 0)) (w2.setCell ⟨O, 0, none⟩ (.slice A2 (ps.take i ++ (⟨key, val⟩ : Pr) :: ps.drop i).length c2')) from
    ⟨0, _, _, rfl, bx2, ((Mv.of_below HX.out.1).trans (mv2.mono (fun k _ c => Or.inr c)) (fun k _ c => c)).trans (Mv.setCell _ _ _ (.inl rfl)) (fun k _ c => c), .inl ⟨rfl, H.out.2.2.2.2.symm, .inr (by rw [H.out.1]; omega)⟩⟩)
  clear own2 gr2 hat hok2 mv2 bx2 hl2 c0
  generalize (ps.take i ++ (⟨key, val⟩ : Pr) :: ps.drop i).length = nl at hfin ⊢
  go_wp2_with fail
  go_ret
  exact hfin.out
set_option maxHeartbeats 1000000 in
theorem put_set (B O : Nat) (vp vr vm : Value) (ps : List Pr) (rs : List Rp) (ep : Int) (ms : List Mb) (key val : ByteArray) (w : World) (h : BoxS B O w vp vr vm ps rs ep ms) (hB : B ≤ w.heap.size) (hv : val.size ≤ 140737488355328) (hb : pairB ps key = true) (hl : ps.length ≤ 100000) :
    Calls Tryd.prog 47 #[.pointer (some ⟨O, 0, none⟩), .string key, .string val] w (PutEnd B O vp vr vm ps rs ep ms key val w) := by
  obtain ⟨Ap, cp, hvp, sp, hA⟩ := own_shape h.s.p
  obtain ⟨Ar, cr, hvr, sr, -⟩ := own_shape h.s.r
  obtain ⟨Am, cm, hvm, sm, -⟩ := own_shape h.s.m
  subst hvp hvr hvm
  obtain ⟨_, _, e1, P⟩ := PS_of_own h.s.p h.s.okp (by omega)
  cases e1
  have hrow := h.row
  have hOl := h.lt
  obtain ⟨np, hnp⟩ : ∃ n, ps.length = n := ⟨_, rfl⟩
  have hil := pairB_lt hb
  rw [hnp] at h P sp hrow hl hil hA ⊢
  obtain ⟨g, off, rfl, hgl, -⟩ := P.mem (by omega)
  obtain ⟨hg, rfl, -⟩ := hA _ _ _ rfl
  have hn1 : (np : Int) ≤ 100000 := by omega
  have hpr := (pair_any (.slice Ar rs.length cr) (.slice Am ms.length cm) (some ⟨g, 0, none⟩) np cp ep ps key w P)
  rw [hb] at hpr
  have H := Lib.hid (And.intro hnp (And.intro h (And.intro hb (show putP ps key val = ps.set (pairI ps key) ⟨(ps.getD (pairI ps key) default).key, val⟩ by unfold putP; rw [if_pos hb]))))
  generalize hI : pairI ps key = i at hil hpr H
  have hi1 : (i : Int) < np := by omega
  have hi0 : ¬ (i : Int) < 0 := by omega
  have HK := Lib.hid (And.intro hv (And.intro hB hg))
  clear h P hnp hI hb sp sr sm hv hB hg hA
  go_enter Tryd.func47, Tryd.ntmps47
  go_wp2_with fail
  refine hpr.mono ?_
  rintro e w1 ⟨rfl, hb1⟩
  have hx1 := H.out.2.1.below hb1
  have c0 : w1.cell? ⟨O, 0, none⟩ = some (.slice (some ⟨g, 0, none⟩) np cp) := cell_of_rowAt hx1.row 0 _ rfl
  obtain ⟨c1, f1, o1⟩ := own_setVal val (by have := hx1.s.p; rw [H.out.1] at this; exact this) H.out.1 hil
  have hfin := Lib.hid (show PutEnd B O (.slice (some ⟨g, 0, none⟩) np cp) (.slice Ar rs.length cr) (.slice Am ms.length cm) ps rs ep ms key val w (.returned (.int .i64 0)) (w1.setCell ⟨g, i * 2 + 1, none⟩ (.string val)) from by
    have hgO : g ≠ O := (hx1.s.ap g HK.out.2.2).1
    have hm : Mv (fun k => (Value.slice (some ⟨g, 0, none⟩) np cp).ownBlock = some k) w1 (w1.setCell ⟨g, i * 2 + 1, none⟩ (.string val)) := Mv.setCell _ _ _ HK.out.2.2
    refine ⟨0, _, _, rfl, ⟨?_, hx1.s.newP hx1.lt (ps' := ps.set i ⟨(ps.getD i default).key, val⟩) (fun y hy => ?_) ?_ hm (.inl rfl)⟩, (Mv.of_below hb1).trans (hm.mono (fun k _ c => Or.inr c)) (fun k _ c => c), .inl ⟨rfl, H.out.2.2.2.symm, .inl H.out.2.2.1⟩⟩
    · rw [heap_setCell_other _ _ _ _ (by simpa using fun c => hgO c.symm)]; exact hx1.o
    · rcases List.mem_or_eq_of_mem_set hy with hy | rfl
      · exact hx1.s.okp y hy
      · exact ⟨(hx1.s.okp (ps.getD i default) (by rw [List.getD_eq_getElem?_getD, List.getElem?_eq_getElem (by have := H.out.1; omega)]; exact List.getElem_mem _)).k, HK.out.1⟩
    · rw [List.length_set, H.out.1]; exact o1)
  clear hpr hb1 hx1 o1
  go_wp2_with fail
  go_ret
  exact hfin.out
set_option maxHeartbeats 1000000 in
theorem put_many (B O : Nat) (vp vr vm : Value) (ps : List Pr) (rs : List Rp) (ep : Int) (ms : List Mb) (key val : ByteArray) (w : World) (h : BoxS B O w vp vr vm ps rs ep ms) (hb : pairB ps key = false) (hl : ps.length ≤ 100000) (hq : 256 ≤ ps.length) :
    Calls Tryd.prog 47 #[.pointer (some ⟨O, 0, none⟩), .string key, .string val] w (PutEnd B O vp vr vm ps rs ep ms key val w) := by
  obtain ⟨Ap, cp, hvp, sp, -⟩ := own_shape h.s.p
  obtain ⟨Ar, cr, hvr, sr, -⟩ := own_shape h.s.r
  obtain ⟨Am, cm, hvm, sm, -⟩ := own_shape h.s.m
  subst hvp hvr hvm
  obtain ⟨_, _, e1, P⟩ := PS_of_own h.s.p h.s.okp (by omega)
  cases e1
  have hrow := h.row
  obtain ⟨np, hnp⟩ : ∃ n, ps.length = n := ⟨_, rfl⟩
  rw [hnp] at h P sp hrow hl hq ⊢
  have hn1 : (np : Int) ≤ 100000 := by omega
  have hn2 : (256 : Int) ≤ np := by omega
  have hpr := (pair_any (.slice Ar rs.length cr) (.slice Am ms.length cm) Ap np cp ep ps key w P)
  rw [hb] at hpr
  have H := Lib.hid (And.intro hnp (And.intro h (And.intro hb hq)))
  generalize hI : pairI ps key = i at hpr
  clear h P hnp hI hb sp sr sm
  go_enter Tryd.func47, Tryd.ntmps47
  go_wp2_with fail
  refine hpr.mono ?_
  rintro e w1 ⟨rfl, hb1⟩
  have hx1 := H.out.2.1.below hb1
  have c0 : w1.cell? ⟨O, 0, none⟩ = some (.slice Ap np cp) := cell_of_rowAt hx1.row 0 _ rfl
  have HX := Lib.hid (And.intro hb1 hx1)
  clear hpr hb1 hx1
  go_wp2_with fail
  go_ret
  exact ⟨11, _, _, rfl, HX.out.2, Mv.of_below HX.out.1, .inr ⟨rfl, rfl, H.out.2.2.1, by rw [H.out.1]; exact H.out.2.2.2⟩⟩
theorem put_any (B O : Nat) (vp vr vm : Value) (ps : List Pr) (rs : List Rp) (ep : Int) (ms : List Mb) (key val : ByteArray) (w : World) (h : BoxS B O w vp vr vm ps rs ep ms) (hB : B ≤ w.heap.size) (hk : key.size ≤ 140737488355328) (hv : val.size ≤ 140737488355328) (hl : ps.length ≤ 100000) :
    Calls Tryd.prog 47 #[.pointer (some ⟨O, 0, none⟩), .string key, .string val] w (PutEnd B O vp vr vm ps rs ep ms key val w) := by
  cases hb : pairB ps key
  · by_cases hq : 256 ≤ ps.length
    · exact put_many B O vp vr vm ps rs ep ms key val w h hb hl hq
    · exact put_ins B O vp vr vm ps rs ep ms key val w h hB hk hv hb (by omega)
  · exact put_set B O vp vr vm ps rs ep ms key val w h hB hv hb hl
end Go.Proofs.YtfnfgnhbnffagaaDoor

/-
What the other operations do.
-/
namespace Go.Proofs.YtfnfgnhbnffagaaDoor
open Go.RowKit
set_option linter.unusedVariables false
set_option linter.unusedSimpArgs false
set_option maxRecDepth 100000
set_option maxHeartbeats 4000000 in
theorem does_put (B O : Nat) (vp vr vm : Value) (ps : List Pr) (rs : List Rp) (ep : Int) (ms : List Mb) (op : Opn) (w : World) (h : BoxS B O w vp vr vm ps rs ep ms) (hB : B ≤ w.heap.size) (hp : ps.length ≤ 100000) (ho : op.ok) (hk : op.kind = 2) :
    Calls Tryd.prog 26 #[.pointer (some ⟨O, 0, none⟩), .agg op.arr] w (DoesEnd B O vp vr vm ps rs ep ms (fun code out ps' ep' ms' => out = [] ∧ ep' = ep ∧ ms' = ms ∧ ((code = 0 ∧ ps' = putP ps op.key op.val ∧ (pairB ps op.key = true ∨ ps.length < 256)) ∨ (code = 11 ∧ ps' = ps ∧ pairB ps op.key = false ∧ 256 ≤ ps.length))) w) := by
  have o0 := op.at0
  have o1 := op.at1
  have o2 := op.at2
  have o3 := op.at3
  obtain ⟨Ap, cp, hvp, sp, -⟩ := own_shape h.s.p
  obtain ⟨Ar, cr, hvr, sr, -⟩ := own_shape h.s.r
  obtain ⟨Am, cm, hvm, sm, -⟩ := own_shape h.s.m
  subst hvp hvr hvm
  obtain ⟨_, _, e1, P⟩ := PS_of_own h.s.p h.s.okp (by omega)
  cases e1
  have hrow := h.row
  have hOl := h.lt
  obtain ⟨np, hnp⟩ : ∃ n, ps.length = n := ⟨_, rfl⟩
  have hn1 : (np : Int) ≤ 100000 := by omega
  rw [hnp] at h P sp hrow ⊢
  have hBw := (Below.refl w.heap.size w).alloc (Nat.le_refl _) (.cells op.arr 44)
  have HN := Lib.hid (And.intro hnp (And.intro h (And.intro P hBw)))
  have hkl : (op.key.size : Int) ≤ 140737488355328 := by have := ho.key; omega
  rw [hk] at o0
  obtain ⟨w2, hw2⟩ : ∃ w2, w.alloc (.cells op.arr 44) = w2 := ⟨_, rfl⟩
  have hs2 : w2.heap.size = w.heap.size + 1 := by rw [← hw2]; simp
  have e0 : ∀ w', Below w2.heap.size w2 w' → rowAt w' O 0 4 = some #[.slice Ap np cp, .slice Ar rs.length cr, .int .i64 ep, .slice Am ms.length cm] := fun w' hb => by
    rw [rowAt_below hb (by omega), ← hw2, rowAt_alloc_past _ _ _ _ _ hOl]; exact hrow
  have e1 : ∀ w', Below w2.heap.size w2 w' → w'.cell? ⟨w.heap.size, 1, none⟩ = some (.string op.key) := fun w' hb => by
    rw [hb.cell (p := ⟨w.heap.size, 1, none⟩) (by simp; omega), ← hw2, World.cell?_alloc_at _ _ _ _ rfl]; exact o1
  have e2 : ∀ w', Below w2.heap.size w2 w' → w'.cell? ⟨w.heap.size, 0, none⟩ = some (.int .i64 2) := fun w' hb => by
    rw [hb.cell (p := ⟨w.heap.size, 0, none⟩) (by simp; omega), ← hw2, World.cell?_alloc_at _ _ _ _ rfl]; exact o0
  have e3 : ∀ w', Below w2.heap.size w2 w' → w'.cell? ⟨w.heap.size, 2, none⟩ = some (.string op.val) := fun w' hb => by
    rw [hb.cell (p := ⟨w.heap.size, 2, none⟩) (by simp; omega), ← hw2, World.cell?_alloc_at _ _ _ _ rfl]; exact o2
  have e4 : ∀ w', Below w2.heap.size w2 w' → w'.cell? ⟨w.heap.size, 3, none⟩ = some (.string op.old) := fun w' hb => by
    rw [hb.cell (p := ⟨w.heap.size, 3, none⟩) (by simp; omega), ← hw2, World.cell?_alloc_at _ _ _ _ rfl]; exact o3
  have hpr : ∀ w', Below w2.heap.size w2 w' → Calls Tryd.prog 46 #[.agg #[.slice Ap np cp, .slice Ar rs.length cr, .int .i64 ep, .slice Am ms.length cm], .string op.key] w' fun e w3 => e = .returned (.tuple #[.int .i64 (pairI ps op.key), .bool (pairB ps op.key)]) ∧ Below w2.heap.size w2 w3 := fun w' hb => by
    refine (pair_any _ _ Ap np cp ep ps op.key w' (P.below (hBw.trans ?_))).mono ?_
    · rw [hw2]; exact hb.mono (by omega)
    · rintro e w3 ⟨rfl, hb3⟩
      exact ⟨rfl, hb.trans (hb3.mono hb.size)⟩
  have hBw2 : Below w.heap.size w w2 := by rw [← hw2]; exact hBw
  have bd : Below w2.heap.size w2 w2.drew := (Below.refl _ _).drew
  generalize pairI ps op.key = pi at hpr
  generalize hPB : pairB ps op.key = pb at hpr ⊢
  have HPB := Lib.hid hPB
  clear hPB
  have HB := Lib.hid (And.intro hBw2 (And.intro hB ho))
  clear hnp h P sp sr sm hB hp ho hBw hrow o0 o1 o2 o3 hBw2
  go_enter Tryd.func26, Tryd.ntmps26
  go_wp2_with fail
  clear hw2
  go_region_held3 (fun w' => rowAt w' O 0 4 = some #[.slice Ap np cp, .slice Ar rs.length cr, .int .i64 ep, .slice Am ms.length cm] ∧ w'.cell? ⟨w.heap.size, 1, none⟩ = some (.string op.key) ∧ Below w2.heap.size w2 w') (exact ⟨e0 _ (by assumption), e1 _ (by assumption), by assumption⟩) (first | (go_at_call 46; refine (hpr _ (by assumption)).mono ?_; rintro e w3 ⟨rfl, hb3⟩))
  have k0 := e2 _ hb3
  have k1 := e1 _ hb3
  have k2 := e3 _ hb3
  have hbw := HB.out.1.trans (hb3.mono HB.out.1.size)
  have hbx := HN.out.2.1.below hbw
  have hput := put_any B O _ _ _ ps rs ep ms op.key op.val w3 hbx (Nat.le_trans HB.out.2.1 hbw.size) HB.out.2.2.key HB.out.2.2.val (by have := HN.out.1; omega)
  have HX := Lib.hid hbw
  clear hb3 hbw hbx
  go_wp2_with fail
  refine hput.mono ?_
  rintro e w4 ⟨code, vp', ps', rfl, bx4, mv4, hc⟩
  have E := Lib.hid (And.intro bx4 (And.intro mv4 hc))
  clear hput bx4 mv4 hc
  go_wp2_with fail
  go_ret2
  exact ⟨code, _, [], vp', _, ps', ep, ms, rfl, E.out.1, ot_nil _ _, by simp, (Mv.of_below HX.out).trans E.out.2.1 (fun _ _ c => c), rfl, rfl, rfl, by rw [← HPB.out, ← HN.out.1]; exact E.out.2.2⟩
set_option maxHeartbeats 4000000 in
theorem does_other (B O : Nat) (vp vr vm : Value) (ps : List Pr) (rs : List Rp) (ep : Int) (ms : List Mb) (op : Opn) (w : World) (h : BoxS B O w vp vr vm ps rs ep ms) (hB : B ≤ w.heap.size) (hp : ps.length ≤ 100000) (ho : op.ok) (hk : op.kind = 4) (hpb : pairB ps op.key = true) (hne : ((ps.getD (pairI ps op.key) default).val.toList == op.old.toList) = false) :
    Calls Tryd.prog 26 #[.pointer (some ⟨O, 0, none⟩), .agg op.arr] w (DoesEnd B O vp vr vm ps rs ep ms (fun code out ps' ep' ms' => code = 9 ∧ out = [(ps.getD (pairI ps op.key) default).val] ∧ ps' = ps ∧ ep' = ep ∧ ms' = ms) w) := by
  have o0 := op.at0
  have o1 := op.at1
  have o2 := op.at2
  have o3 := op.at3
  obtain ⟨Ap, cp, hvp, sp, -⟩ := own_shape h.s.p
  obtain ⟨Ar, cr, hvr, sr, -⟩ := own_shape h.s.r
  obtain ⟨Am, cm, hvm, sm, -⟩ := own_shape h.s.m
  subst hvp hvr hvm
  obtain ⟨_, _, e1, P⟩ := PS_of_own h.s.p h.s.okp (by omega)
  cases e1
  have hrow := h.row
  have hOl := h.lt
  obtain ⟨np, hnp⟩ : ∃ n, ps.length = n := ⟨_, rfl⟩
  have hn1 : (np : Int) ≤ 100000 := by omega
  rw [hnp] at h P sp hrow ⊢
  have hBw := (Below.refl w.heap.size w).alloc (Nat.le_refl _) (.cells op.arr 44)
  have HN := Lib.hid (And.intro hnp (And.intro h (And.intro P hBw)))
  have hkl : (op.key.size : Int) ≤ 140737488355328 := by have := ho.key; omega
  rw [hk] at o0
  obtain ⟨w2, hw2⟩ : ∃ w2, w.alloc (.cells op.arr 44) = w2 := ⟨_, rfl⟩
  have hs2 : w2.heap.size = w.heap.size + 1 := by rw [← hw2]; simp
  have e0 : ∀ w', Below w2.heap.size w2 w' → rowAt w' O 0 4 = some #[.slice Ap np cp, .slice Ar rs.length cr, .int .i64 ep, .slice Am ms.length cm] := fun w' hb => by
    rw [rowAt_below hb (by omega), ← hw2, rowAt_alloc_past _ _ _ _ _ hOl]; exact hrow
  have e1 : ∀ w', Below w2.heap.size w2 w' → w'.cell? ⟨w.heap.size, 1, none⟩ = some (.string op.key) := fun w' hb => by
    rw [hb.cell (p := ⟨w.heap.size, 1, none⟩) (by simp; omega), ← hw2, World.cell?_alloc_at _ _ _ _ rfl]; exact o1
  have e2 : ∀ w', Below w2.heap.size w2 w' → w'.cell? ⟨w.heap.size, 0, none⟩ = some (.int .i64 4) := fun w' hb => by
    rw [hb.cell (p := ⟨w.heap.size, 0, none⟩) (by simp; omega), ← hw2, World.cell?_alloc_at _ _ _ _ rfl]; exact o0
  have e3 : ∀ w', Below w2.heap.size w2 w' → w'.cell? ⟨w.heap.size, 2, none⟩ = some (.string op.val) := fun w' hb => by
    rw [hb.cell (p := ⟨w.heap.size, 2, none⟩) (by simp; omega), ← hw2, World.cell?_alloc_at _ _ _ _ rfl]; exact o2
  have e4 : ∀ w', Below w2.heap.size w2 w' → w'.cell? ⟨w.heap.size, 3, none⟩ = some (.string op.old) := fun w' hb => by
    rw [hb.cell (p := ⟨w.heap.size, 3, none⟩) (by simp; omega), ← hw2, World.cell?_alloc_at _ _ _ _ rfl]; exact o3
  have hpr : ∀ w', Below w2.heap.size w2 w' → Calls Tryd.prog 46 #[.agg #[.slice Ap np cp, .slice Ar rs.length cr, .int .i64 ep, .slice Am ms.length cm], .string op.key] w' fun e w3 => e = .returned (.tuple #[.int .i64 (pairI ps op.key), .bool (pairB ps op.key)]) ∧ Below w2.heap.size w2 w3 := fun w' hb => by
    refine (pair_any _ _ Ap np cp ep ps op.key w' (P.below (hBw.trans ?_))).mono ?_
    · rw [hw2]; exact hb.mono (by omega)
    · rintro e w3 ⟨rfl, hb3⟩
      exact ⟨rfl, hb.trans (hb3.mono hb.size)⟩
  have hBw2 : Below w.heap.size w w2 := by rw [← hw2]; exact hBw
  have bd : Below w2.heap.size w2 w2.drew := (Below.refl _ _).drew
  have hpi := pairB_lt hpb
  rw [hpb] at hpr
  rw [HN.out.1] at hpi
  generalize hI : pairI ps op.key = pi at hpr hpi hne
  have HI := Lib.hid hI
  clear hI hpb
  have HB := Lib.hid (And.intro hBw2 (And.intro hB ho))
  clear hnp h P sp sr sm hB hp ho hBw hrow o0 o1 o2 o3 hBw2
  go_enter Tryd.func26, Tryd.ntmps26
  go_wp2_with fail
  clear hw2
  go_region_held3 (fun w' => rowAt w' O 0 4 = some #[.slice Ap np cp, .slice Ar rs.length cr, .int .i64 ep, .slice Am ms.length cm] ∧ w'.cell? ⟨w.heap.size, 1, none⟩ = some (.string op.key) ∧ Below w2.heap.size w2 w') (exact ⟨e0 _ (by assumption), e1 _ (by assumption), by assumption⟩) (first | (go_at_call 46; refine (hpr _ (by assumption)).mono ?_; rintro e w3 ⟨rfl, hb3⟩))
  have k0 := e2 _ hb3
  have k1 := e1 _ hb3
  have k4 := e4 _ hb3
  have hbw := HB.out.1.trans (hb3.mono HB.out.1.size)
  have hbx := HN.out.2.1.below hbw
  obtain ⟨b, off, rfl, hbb, hel⟩ := HN.out.2.2.1.mem (by omega)
  have c1 := cell_of_rowAt ((rowAt_below hbw hbb _ _).trans (hel pi hpi)) 1 _ (Pr.at1 _)
  generalize hv : (ps.getD pi default).val = pv at c1 hne
  have hi1 : (pi : Int) < np := by omega
  have hi0 : ¬ (pi : Int) < 0 := by omega
  have c0 : w3.cell? ⟨O, 0, none⟩ = some (.slice (some ⟨b, off, none⟩) np cp) := cell_of_rowAt (e0 _ hb3) 0 _ rfl
  have HX := Lib.hid (And.intro hbw (And.intro hbx hv))
  clear hb3 hbw hbx hel hv
  go_wp2_with fail
  go_quiet (fail)
  have bq := below_drewN (Below.refl w3.heap.size w3) nq
  go_wp2_with fail
  have hbO : O < w3.heap.size := HX.out.2.1.lt
  have hbb3 : b < w3.heap.size := Nat.lt_of_lt_of_le hbb HX.out.1.size
  go_region
  go_wp2_with fail
  go_ret2
  have hbz : Below w3.heap.size w3 ((w3.drewN (nq + 1)).alloc (.cells #[.string pv] 9)) := (below_drewN (Below.refl w3.heap.size w3) (nq + 1)).alloc (Nat.le_refl _) _
  have hO : OT ((w3.drewN (nq + 1)).alloc (.cells #[.string pv] 9)) w.heap.size (.slice (some ⟨w3.heap.size, 0, none⟩) 1 1) [pv] :=
    own_of_block HX.out.1.size (heap_alloc_new (w3.drewN (nq + 1)) _) (Nat.le_refl _) (by decide) rfl rfl
  exact ⟨9, _, [pv], _, _, ps, ep, ms, rfl, HX.out.2.1.below hbz, hO, by simp, Mv.of_below (HX.out.1.trans (hbz.mono HX.out.1.size)), rfl, by rw [HX.out.2.2], rfl, rfl, rfl⟩
end Go.Proofs.YtfnfgnhbnffagaaDoor
