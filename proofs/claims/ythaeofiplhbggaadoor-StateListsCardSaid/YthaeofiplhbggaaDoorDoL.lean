/-
What a list does.
-/
import Derived.Test.YthaeofiplhbggaaDoorInz
namespace Go.Proofs.YthaeofiplhbggaaDoor
open Go.RowKit
set_option linter.unusedVariables false
set_option linter.unusedSimpArgs false
set_option maxRecDepth 100000
@[go_sem ↓] theorem ap_Td (ty : TypeId) (args : Array Value) : Builtin.append_ #[41, 41] ty args = apRow #[41, 41] ty args := rfl
def hasPre (s p : ByteArray) : Bool := decide (p.size ≤ s.size) && ((s.extract 0 p.size).toList == p.toList)
theorem sHasPrefix_any (s p : ByteArray) (w : World) (h1 : (s.size : Int) ≤ 140737488355328) (h2 : (p.size : Int) ≤ 140737488355328) : Calls Tryd.prog 38 #[.string s, .string p] w fun e w' => e = .returned (.bool (hasPre s p)) ∧ w = w' := by
  by_cases hl : p.size ≤ s.size
  · have hli : (p.size : Int) ≤ s.size := by omega
    go_enter Tryd.func38, Tryd.ntmps38
    go_wp2_with fail
    go_ret
    refine ⟨?_, rfl⟩
    unfold hasPre
    rw [decide_eq_true hl, Bool.true_and]
    rfl
  · have hli : ¬ (p.size : Int) ≤ s.size := by omega
    go_enter Tryd.func38, Tryd.ntmps38
    go_wp2_with fail
    go_ret
    refine ⟨?_, rfl⟩
    unfold hasPre
    rw [decide_eq_false hl, Bool.false_and]
    rfl
theorem hasPrefix_any (s p : ByteArray) (w : World) (h1 : (s.size : Int) ≤ 140737488355328) (h2 : (p.size : Int) ≤ 140737488355328) : Calls Tryd.prog 29 #[.string s, .string p] w fun e w' => e = .returned (.bool (hasPre s p)) ∧ w = w' := by
  go_enter Tryd.func29, Tryd.ntmps29
  go_wp2_with fail
  refine (sHasPrefix_any s p _ h1 h2).mono ?_
  rintro e w' ⟨rfl, rfl⟩
  go_wp2_with fail
  go_ret
  exact ⟨rfl, rfl⟩
/-- the keys that begin so -/
def listP (ps : List Pr) (k : ByteArray) : List ByteArray := (ps.map Pr.key).filter fun s => hasPre s k
/-- the box of a registry of one's own -/
structure BoxS (B O : Nat) (w : World) (vp vr vm : Value) (ps : List Pr) (rs : List Rp) (ep : Int) (ms : List Mb) : Prop where
  o : w.heap[O]? = some (.cells #[vp, vr, .int .i64 ep, vm] 28 (0, 0))
  s : OwnS B O w vp vr vm ps rs ms
theorem BoxS.lt {B O : Nat} {w : World} {vp vr vm : Value} {ps : List Pr} {rs : List Rp} {ep : Int} {ms : List Mb} (h : BoxS B O w vp vr vm ps rs ep ms) : O < w.heap.size := (Array.getElem?_eq_some_iff.1 h.o).1
theorem BoxS.below {B O : Nat} {w w' : World} {vp vr vm : Value} {ps : List Pr} {rs : List Rp} {ep : Int} {ms : List Mb} (h : BoxS B O w vp vr vm ps rs ep ms) (hb : Below w.heap.size w w') : BoxS B O w' vp vr vm ps rs ep ms :=
  ⟨(hb.block _ h.lt).trans h.o, h.s.below hb⟩
theorem BoxS.row {B O : Nat} {w : World} {vp vr vm : Value} {ps : List Pr} {rs : List Rp} {ep : Int} {ms : List Mb} (h : BoxS B O w vp vr vm ps rs ep ms) : rowAt w O 0 4 = some #[vp, vr, .int .i64 ep, vm] := by
  unfold rowAt
  rw [h.o]
  exact cut_all _ _ rfl
/-- what an operation answers: the box and the pairs' row may have turned -/
def DoesEnd (B O : Nat) (vp vr vm : Value) (ps : List Pr) (rs : List Rp) (ep : Int) (ms : List Mb) (D : Int → List ByteArray → List Pr → Int → List Mb → Prop) (w : World) (e : Ending) (w' : World) : Prop :=
  ∃ code vals out vp' vm' ps' ep' ms', e = .returned (.tuple #[.int .i64 code, vals]) ∧ BoxS B O w' vp' vr vm' ps' rs ep' ms' ∧ OT w' w.heap.size vals out ∧ out.length ≤ 100000 ∧ Mv (fun k => k = O ∨ vp.ownBlock = some k) w w' ∧ D code out ps' ep' ms'
set_option maxHeartbeats 4000000 in
theorem does_list (B O : Nat) (vp vr vm : Value) (ps : List Pr) (rs : List Rp) (ep : Int) (ms : List Mb) (op : Opn) (w : World) (h : BoxS B O w vp vr vm ps rs ep ms) (hB : B ≤ w.heap.size) (hp : ps.length ≤ 100000) (ho : op.ok) (hk : op.kind = 5) :
    Calls Tryd.prog 19 #[.pointer (some ⟨O, 0, none⟩), .agg op.arr] w (DoesEnd B O vp vr vm ps rs ep ms (fun code out ps' ep' ms' => code = 0 ∧ out = listP ps op.key ∧ ps' = ps ∧ ep' = ep ∧ ms' = ms) w) := by
  have o0 := op.at0
  have o1 := op.at1
  obtain ⟨Ap, cp, hvp, sp, -⟩ := own_shape h.s.p
  obtain ⟨Ar, cr, hvr, sr, -⟩ := own_shape h.s.r
  obtain ⟨Am, cm, hvm, sm, -⟩ := own_shape h.s.m
  subst hvp hvr hvm
  obtain ⟨_, _, e1, P⟩ := PS_of_own h.s.p h.s.okp (by omega)
  cases e1
  have hrow := h.row
  have hOl := h.lt
  obtain ⟨np, hnp⟩ : ∃ n, ps.length = n := ⟨_, rfl⟩
  have hn1 : (np : Int) ≤ 100000 := by omega
  rw [hnp] at h P sp hrow ⊢
  have hBw := (Below.refl w.heap.size w).alloc (Nat.le_refl _) (.cells op.arr 37)
  have HN := Lib.hid (And.intro hnp (And.intro h (And.intro P hBw)))
  have hkl : (op.key.size : Int) ≤ 140737488355328 := by have := ho.key; omega
  rw [hk] at o0
  obtain ⟨w2, hw2⟩ : ∃ w2, w.alloc (.cells op.arr 37) = w2 := ⟨_, rfl⟩
  have hs2 : w2.heap.size = w.heap.size + 1 := by rw [← hw2]; simp
  have e0 : ∀ w', Below w2.heap.size w2 w' → rowAt w' O 0 4 = some #[.slice Ap np cp, .slice Ar rs.length cr, .int .i64 ep, .slice Am ms.length cm] := fun w' hb => by
    rw [rowAt_below hb (by omega), ← hw2, rowAt_alloc_past _ _ _ _ _ hOl]; exact hrow
  have e1 : ∀ w', Below w2.heap.size w2 w' → w'.cell? ⟨w.heap.size, 1, none⟩ = some (.string op.key) := fun w' hb => by
    rw [hb.cell (p := ⟨w.heap.size, 1, none⟩) (by simp; omega), ← hw2, World.cell?_alloc_at _ _ _ _ rfl]; exact o1
  have e2 : ∀ w', Below w2.heap.size w2 w' → w'.cell? ⟨w.heap.size, 0, none⟩ = some (.int .i64 5) := fun w' hb => by
    rw [hb.cell (p := ⟨w.heap.size, 0, none⟩) (by simp; omega), ← hw2, World.cell?_alloc_at _ _ _ _ rfl]; exact o0
  have hpr : ∀ w', Below w2.heap.size w2 w' → Calls Tryd.prog 22 #[.agg #[.slice Ap np cp, .slice Ar rs.length cr, .int .i64 ep, .slice Am ms.length cm], .string op.key] w' fun e w3 => e = .returned (.tuple #[.int .i64 (pairI ps op.key), .bool (pairB ps op.key)]) ∧ Below w2.heap.size w2 w3 := fun w' hb => by
    refine (pair_any _ _ Ap np cp ep ps op.key w' (P.below (hBw.trans ?_))).mono ?_
    · rw [hw2]; exact hb.mono (by omega)
    · rintro e w3 ⟨rfl, hb3⟩
      exact ⟨rfl, hb.trans (hb3.mono hb.size)⟩
  have hBw2 : Below w.heap.size w w2 := by rw [← hw2]; exact hBw
  have bd : Below w2.heap.size w2 w2.drew := (Below.refl _ _).drew
  generalize pairI ps op.key = pi at hpr
  generalize pairB ps op.key = pb at hpr
  have HB := Lib.hid hBw2
  clear hnp h P sp sr sm hB hp ho hBw hrow o0 o1 hBw2
  go_enter Tryd.func19, Tryd.ntmps19
  go_wp2_with fail
  clear hw2
  go_region_held3 (fun w' => rowAt w' O 0 4 = some #[.slice Ap np cp, .slice Ar rs.length cr, .int .i64 ep, .slice Am ms.length cm] ∧ w'.cell? ⟨w.heap.size, 1, none⟩ = some (.string op.key) ∧ Below w2.heap.size w2 w') (exact ⟨e0 _ (by assumption), e1 _ (by assumption), by assumption⟩) (first | (go_at_call 22; refine (hpr _ (by assumption)).mono ?_; rintro e w3 ⟨rfl, hb3⟩))
  have k0 := e2 _ hb3
  have c0 : w3.cell? ⟨O, 0, none⟩ = some (.slice Ap np cp) := cell_of_rowAt (e0 _ hb3) 0 _ rfl
  go_wp2_with fail
  clear k0 c0
  have HP3 := Lib.hid hb3
  clear hb3
  go_loopw [8, 102] (fun s t wr => ∃ k : Nat, k ≤ np ∧ t = .int .i64 k ∧ OT wr w2.heap.size s (listP (ps.take k) op.key) ∧ Below w2.heap.size w2 wr) (fun _ t _ => np - (intOf t).toNat)
  case atStart => exact ⟨0, Nat.zero_le _, rfl, ot_nil _ _, HP3.out⟩
  case round =>
    obtain ⟨k, hk, rfl, ho, hb⟩ := hrel
    have hk0 : (0 : Int) ≤ k := by omega
    have hll : (listP (ps.take k) op.key).length ≤ 100000 := by
      have h1 : (listP (ps.take k) op.key).length ≤ ((ps.take k).map Pr.key).length := List.length_filter_le ..
      rw [List.length_map, List.length_take] at h1
      omega
    by_cases hlt : k < np
    · have hk1 : (k : Int) < np := by omega
      obtain ⟨hnp, hbx, P, hBw⟩ := HN.out
      obtain ⟨b, off, rfl, hbb, hel⟩ := P.mem (by omega)
      have hr := (rowAt_below (HB.out.trans (hb.mono HB.out.size)) hbb _ _).trans (hel k hlt)
      have hokk := P.okAt hlt
      have htk : listP (ps.take (k + 1)) op.key = listP (ps.take k) op.key ++ (if hasPre (ps.getD k default).key op.key = true then [(ps.getD k default).key] else []) := by
        unfold listP
        rw [List.take_succ_eq_append_getElem (by omega), List.map_append, List.filter_append, List.getD_eq_getElem?_getD, List.getElem?_eq_getElem (by omega)]
        congr 1
        simp only [List.map_cons, List.map_nil, List.filter_cons, List.filter_nil, Option.getD_some]
      generalize ps.getD k default = x at hr hokk htk
      obtain ⟨key, val⟩ := x
      replace hr : rowAt wr b (off + k * 2) 2 = some #[.string key, .string val] := hr
      have hkk : (key.size : Int) ≤ 140737488355328 := by have : key.size ≤ 140737488355328 := hokk.k; omega
      have c1 := e1 _ hb
      have hlw : w.heap.size < wr.heap.size := by have := hb.size; omega
      have bA := (Below.refl wr.heap.size wr).alloc (Nat.le_refl _) (.cells #[.string key, .string val] 51)
      have hbA := hb.trans (bA.mono hb.size)
      clear hnp hbx P hBw hel hokk
      cases hpre : hasPre key op.key
      · have E := Lib.hid (And.intro (ho.below bA) (And.intro hbA (show listP (ps.take (k + 1)) op.key = listP (ps.take k) op.key by rw [htk]; simp [hpre])))
        have HPR := Lib.hid hpre
        clear ho hb bA hbA htk hpre HP3
        go_wp2_with fail
        refine (hasPrefix_any key op.key _ hkk hkl).mono ?_
        rw [HPR.out]
        rintro e w4 ⟨rfl, rfl⟩
        go_wp2_with fail
        go_roundw
        case rel => exact ⟨k + 1, by omega, by go_num, by rw [E.out.2.2]; exact E.out.1, E.out.2.1⟩
        case measure => simp [intOf]; omega
      · have o1 := ho.below bA
        obtain ⟨v', w', r2, o2, b2⟩ := ot_push 41 o1 key hll hbA.size
        rw [World.size_alloc] at r2
        obtain ⟨As, cs, rfl⟩ := ot_shape o1 rfl
        have E := Lib.hid (And.intro o2 (And.intro (hbA.trans b2) (show listP (ps.take (k + 1)) op.key = listP (ps.take k) op.key ++ [key] by rw [htk]; simp [hpre])))
        have HPR := Lib.hid hpre
        clear ho hb bA hbA htk hpre HP3 o1 o2 b2 hll
        generalize (listP (ps.take k) op.key).length = la at r2 ⊢
        go_wp2_with fail
        refine (hasPrefix_any key op.key _ hkk hkl).mono ?_
        rw [HPR.out]
        rintro e w4 ⟨rfl, rfl⟩
        go_wp2_with fail
        go_roundw
        case rel => exact ⟨k + 1, by omega, by go_num, by rw [E.out.2.2]; exact E.out.1, E.out.2.1⟩
        case measure => simp [intOf]; omega
    · have hkn : k = np := by omega
      have hnp := HN.out.1
      rw [show ps.take k = ps by rw [hkn, ← hnp, List.take_length]] at ho hll
      have E := Lib.hid (And.intro ho (And.intro hb (And.intro hll hnp)))
      clear ho hb hll hnp
      go_wp2_with fail
      go_ret2
      obtain ⟨ho, hb, hll, hnp⟩ := E.out
      have hbw := HB.out.trans (hb.mono HB.out.size)
      exact ⟨0, _, listP ps op.key, _, _, ps, ep, ms, rfl, HN.out.2.1.below hbw, own_mono ho HB.out.size, hll, Mv.of_below hbw, rfl, rfl, rfl, rfl, rfl⟩
end Go.Proofs.YthaeofiplhbggaaDoor
