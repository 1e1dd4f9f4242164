/-
A copy of a registry shares nothing.
-/
import Derived.Test.YthaeofiplhbggaaDoorOwn
namespace Go.Proofs.YthaeofiplhbggaaDoor
open Go.RowKit
set_option linter.unusedVariables false
set_option linter.unusedSimpArgs false
set_option maxRecDepth 100000
@[go_sem ↓] theorem ap_MR' (ty : TypeId) (args : Array Value) : Builtin.append_ #[23, 23] ty args = apRow #[23, 23] ty args := rfl
@[go_sem] theorem rp_ones4 (a b c : Int) (A : Option Addr) (n q : Nat) : oneCells #[.int .i64 a, .int .i64 b, .int .i64 c, .slice A n q] = true := by simp [oneCells, Value.oneCell']
theorem Cp.mv {fp : Nat → Prop} {W w w' : World} {O : Nat} {va vo : Array Value} (h : Cp W O va vo w) (m : Mv fp w w') (hf : ∀ i, fp i → W.heap.size + 1 < i ∧ i ≠ O) : Cp W O va vo w' :=
  ⟨h.lt, h.b.trans (m.below h.b.size (fun i hi => by have := (hf i hi).1; omega)), (m.block _ (by have := h.lt; have := h.olt; omega) (fun c => by have := (hf _ c).1; omega)).trans h.a, h.z.of_block (m.block _ h.z.lt (fun c => by have := (hf _ c).1; omega)), (m.block _ h.olt (fun c => (hf _ c).2 rfl)).trans h.o⟩
/-- what a copy is -/
def CopEnd (ps : List Pr) (rs : List Rp) (ep : Int) (ms : List Mb) (w : World) (e : Ending) (w' : World) : Prop :=
  ∃ vp vr vm rs' O, e = .returned (.agg #[vp, vr, .int .i64 ep, vm]) ∧ OwnS w.heap.size O w' vp vr vm ps rs' ms ∧ rs'.map Rp.d = rs.map Rp.d ∧ Below w.heap.size w w'
set_option maxHeartbeats 4000000 in
theorem copied_any (v : Value) (ps : List Pr) (rs : List Rp) (ep : Int) (ms : List Mb) (w : World) (h : StS w v ps rs ep ms) (hm : ms.length ≤ 100000) (hp : ps.length ≤ 100000) (hr : rs.length ≤ 100000) : Calls Tryd.prog 18 #[v] w (CopEnd ps rs ep ms w) := by
  obtain ⟨Ap, cp, Ar, cr, Am, cm, rfl, h1, h2, h3, h4, h5, h6, h7⟩ := h.ex
  have hc : rowAt (w.alloc (.cells #[.slice Ap ps.length cp, .slice Ar rs.length cr, .int .i64 ep, .slice Am ms.length cm] 28)) w.heap.size 2 2 = some #[.int .i64 ep, .slice Am ms.length cm] := by
    rw [rowAt_alloc_at _ _ _ _ _ _ rfl]; rfl
  have hB : Below w.heap.size w ((w.alloc (.cells #[.slice Ap ps.length cp, .slice Ar rs.length cr, .int .i64 ep, .slice Am ms.length cm] 28)).alloc (.cells #[.slice none 0 0, .slice none 0 0, .int .i64 0, .slice none 0 0] 28)) := ((Below.refl _ _).alloc (Nat.le_refl _) _).alloc (by simp) _
  have hA : ((w.alloc (.cells #[.slice Ap ps.length cp, .slice Ar rs.length cr, .int .i64 ep, .slice Am ms.length cm] 28)).alloc (.cells #[.slice none 0 0, .slice none 0 0, .int .i64 0, .slice none 0 0] 28)).heap[w.heap.size]? = some (.cells #[.slice Ap ps.length cp, .slice Ar rs.length cr, .int .i64 ep, .slice Am ms.length cm] 28 (0, 0)) := by
    rw [Below.heap_alloc _ _ _ (by simp)]; exact heap_alloc_new w _
  have hr0 : (rs.length : Int) ≤ 100000 := by omega
  obtain ⟨np, hnp⟩ : ∃ n, ps.length = n := ⟨_, rfl⟩
  obtain ⟨nr, hnr⟩ : ∃ n, rs.length = n := ⟨_, rfl⟩
  obtain ⟨nm, hnm⟩ : ∃ n, ms.length = n := ⟨_, rfl⟩
  rw [hnp] at h1 h2 hp
  rw [hnr] at h3 h4 hr hr0
  rw [hnm] at h5 h6 hm
  rw [hnp, hnr, hnm] at hc hB hA
  rw [hnp, hnr, hnm]
  have HN := Lib.hid (And.intro hnp (And.intro hnr hnm))
  clear h hnp hnr hnm
  have hZ : Bx ((w.alloc (.cells #[.slice Ap np cp, .slice Ar nr cr, .int .i64 ep, .slice Am nm cm] 28)).alloc (.cells #[.slice none 0 0, .slice none 0 0, .int .i64 0, .slice none 0 0] 28)) (w.heap.size + 1) 4 28 := by
    have := Bx.made (w.alloc (.cells #[.slice Ap np cp, .slice Ar nr cr, .int .i64 ep, .slice Am nm cm] 28)) #[.slice none 0 0, .slice none 0 0, .int .i64 0, .slice none 0 0] 28 4 rfl
    simpa using this
  go_enter Tryd.func18, Tryd.ntmps18
  go_wp2_with fail
  refine (new_any ep Am nm cm ms _ (h5.below hB) h6 (by omega)).mono ?_
  rintro e w3 ⟨vm, rfl, own, hb3⟩
  rw [HN.out.2.2] at own
  obtain ⟨Ac, cc, rfl, -⟩ := MS_of_own own h5.ok h5.small
  have S3 := Cp.start (vo := #[.slice none 0 0, .slice none 0 0, .int .i64 ep, .slice Ac nm cc]) (hB.trans (hb3.mono hB.size)) ((hb3.block _ (by simp; omega)).trans hA) (hZ.below hb3)
  have hA3 := (hb3.block _ (by simp; omega)).trans hA
  have l3 : w.heap.size < w3.heap.size := (Array.getElem?_eq_some_iff.1 hA3).1
  have a30 : w3.cell? ⟨w.heap.size, 0, none⟩ = some (.slice Ap np cp) := by rw [cell_of_row _ _ _ _ _ _ hA3]; rfl
  have O3 : OwnS (w.heap.size + 1 + 1) w3.heap.size (w3.alloc (.cells #[.slice none 0 0, .slice none 0 0, .int .i64 ep, .slice Ac nm cc] 28)) (.slice none 0 0) (.slice none 0 0) (.slice Ac nm cc) [] [] ms :=
    ⟨World.ownsRow_nil _ _ _ _, World.ownsRow_nil _ _ _ _, by rw [HN.out.2.2]; exact own_mv (own_mono own (by simp)) (Mv.alloc (fp := fun _ => False) _ _) (fun _ _ c => c), (by simp), (by intro x hx; cases hx), (by intro x hx; cases hx), h5.ok, (by intro k hk; cases hk), (by intro k hk; cases hk), (fun e => by have := (own_lt own e).2; omega), (by simp)⟩
  clear own hA hB hA3 hb3 hZ
  go_wp2_with fail
  refine (cloneP Ap np cp ps _ (h1.below S3.b) (by omega) h2).mono ?_
  rintro e w4 ⟨vp, rfl, ownp, hb4⟩
  have S4 := S3.below hb4
  obtain ⟨Aq, cq, rfl, -⟩ := PS_of_own ownp h1.ok h1.small
  have f40 := S4.fo 0
  have c40 : w4.cell? ⟨w3.heap.size, 0, none⟩ = some (.slice none 0 0) := S4.co 0 rfl
  have S5 := S4.set 0 (.slice Aq np cq)
  have a41 : w4.cell? ⟨w.heap.size, 1, none⟩ = some (.slice Ar nr cr) := S4.ca 1 rfl
  have O4 := O3.below hb4
  have O5 : OwnS (w.heap.size + 1 + 1) w3.heap.size (w4.setCell ⟨w3.heap.size, 0, none⟩ (.slice Aq np cq)) (.slice Aq np cq) (.slice none 0 0) (.slice Ac nm cc) ps [] ms := by
    have hk : ∀ k, (Value.slice Aq np cq).ownBlock = some k → w3.heap.size < k := fun k hk => by have := (own_lt ownp hk).1; simp at this; omega
    refine ⟨by rw [HN.out.1]; exact own_mv (own_mono ownp (by simp; omega)) (Mv.setCell (fp := (· = w3.heap.size)) _ _ _ rfl) (fun k h c => by have := hk k h; omega), World.ownsRow_nil _ _ _ _, (O4.setO 0 _).m, (by simp), h1.ok, (by intro x hx; cases hx), h5.ok, fun k h => ⟨by have := hk k h; omega, by simp [Value.ownBlock], fun e => ?_, (by simp)⟩, (by intro k hk; cases hk), O4.am, (by simp)⟩
    have h8 := (own_lt O3.m e).2
    have h9 := (own_lt ownp h).1
    omega
  have HA := Lib.hid h1
  have HS := Lib.hid (And.intro S5 O5)
  have HO := Lib.hid (And.intro h3 (And.intro h7 (And.intro h4 h5.ok)))
  clear S3 O3 S4 O4 S5 O5 h1 h2 h3 h4 h5 h6 h7 ownp hb4 a30 hc hm hp hr HA
  go_wp2_with fail
  clear a41 c40 f40
  go_loopw [16] (fun t wr => ∃ k : Nat, k ≤ nr ∧ t = .int .i64 k ∧ ∃ Ax cx R, Cp w w3.heap.size #[.slice Ap np cp, .slice Ar nr cr, .int .i64 ep, .slice Am nm cm] #[.slice Aq np cq, .slice Ax k cx, .int .i64 ep, .slice Ac nm cc] wr ∧ R.length = k ∧
    OwnS (w.heap.size + 1 + 1) w3.heap.size wr (.slice Aq np cq) (.slice Ax k cx) (.slice Ac nm cc) ps R ms ∧ R.map Rp.d = (rs.take k).map Rp.d) (fun t _ => nr - (intOf t).toNat)
  case atStart => exact ⟨0, Nat.zero_le _, rfl, none, 0, [], HS.out.1, rfl, HS.out.2, rfl⟩
  case round =>
    obtain ⟨k, hk, rfl, Ax, cx, R, S, hl, OW, hd⟩ := hrel
    have hk0 : (0 : Int) ≤ k := by omega
    by_cases hlt : k < nr
    · have hk1 : (k : Int) < nr := by omega
      obtain ⟨b, off, rfl, hb, hel⟩ := HO.out.1.mem (by omega)
      have hr := (rowAt_below S.b hb _ _).trans (hel k hlt)
      have hok := HO.out.1.okAt hlt
      have hin : rs.getD k default ∈ rs := by
        have := HN.out.2.1
        rw [List.getD_eq_getElem?_getD, List.getElem?_eq_getElem (by omega)]
        exact List.getElem_mem _
      obtain ⟨ht, hs⟩ := HO.out.2.1 _ hin
      have htk : (rs.take (k + 1)).map Rp.d = (rs.take k).map Rp.d ++ [(rs.getD k default).d] := by
        have := HN.out.2.1
        rw [List.take_succ_eq_append_getElem (by omega), List.map_append, List.getD_eq_getElem?_getD, List.getElem?_eq_getElem (by omega)]; rfl
      generalize rs.getD k default = r at hr hok ht hs htk
      obtain ⟨rc, rn, re, rA, rq, vals⟩ := r
      obtain ⟨q, hq⟩ : ∃ q, vals.length = q := ⟨_, rfl⟩
      replace hr : rowAt wr b (off + k * 4) 4 = some #[.int .i64 rc, .int .i64 rn, .int .i64 re, .slice rA vals.length rq] := hr
      rw [hq] at hr
      simp only [hq] at ht hs
      have S5 := S.alloc (.cells #[.int .i64 rc, .int .i64 rn, .int .i64 re, .slice rA q rq] 43)
      have ht5 := ht.below S5.b
      have hg5 := heap_alloc_new wr (.cells #[.int .i64 rc, .int .i64 rn, .int .i64 re, .slice rA q rq] 43)
      have OW5 := OW.below ((Below.refl wr.heap.size wr).alloc (Nat.le_refl _) (.cells #[.int .i64 rc, .int .i64 rn, .int .i64 re, .slice rA q rq] 43))
      have E := Lib.hid (And.intro hq (And.intro htk (And.intro hok (And.intro hd (And.intro hl (And.intro S5 (And.intro OW5 (And.intro hg5 (And.intro OW S)))))))))
      clear hq htk hok hd hl S5 OW5 hg5 OW hin hel hb
      go_wp2_with fail
      refine (cloneS_any rA q rq vals _ ht5 hs).mono ?_
      rintro e w6 ⟨v6, rfl, ot6, hb6⟩
      obtain ⟨hq, htk, hok, hd, hl, S5, OW5, hg5, OW, -⟩ := E.out
      obtain ⟨A6, c6, hv6, -, -⟩ := ot6.ts (hok.l)
      rw [hq] at hv6
      subst hv6
      have S6 := S5.below hb6
      have OW6 := OW5.below hb6
      have hg6 := (hb6.block _ (by simp)).trans hg5
      have hgO : w3.heap.size < wr.heap.size := S.olt
      have f63 : w6.frozen? ⟨wr.heap.size, 3, none⟩ = false := by simp [World.frozen?, hg6]
      have c63 : w6.cell? ⟨wr.heap.size, 3, none⟩ = some (.slice rA q rq) := by rw [cell_of_row _ _ _ _ _ _ hg6]; rfl
      have c61 : w6.cell? ⟨w3.heap.size, 1, none⟩ = some (.slice Ax k cx) := S6.co 1 rfl
      have f61 : w6.frozen? ⟨w3.heap.size, 1, none⟩ = false := S6.fo 1
      have hM : Mv (· = wr.heap.size) w6 (w6.setCell ⟨wr.heap.size, 3, none⟩ (.slice A6 q c6)) := Mv.setCell _ _ _ rfl
      have hrow : rowAt (w6.setCell ⟨wr.heap.size, 3, none⟩ (.slice A6 q c6)) wr.heap.size 0 4 = some #[.int .i64 rc, .int .i64 rn, .int .i64 re, .slice A6 q c6] := by
        unfold rowAt
        rw [heap_setCell_same _ _ _ _ _ _ hg6]
        exact cut_all _ _ rfl
      have S7 := S6.mv hM (fun i hi => by subst hi; have := S.lt; exact ⟨by omega, by omega⟩)
      have OW7 : OwnS (w.heap.size + 1 + 1) w3.heap.size (w6.setCell ⟨wr.heap.size, 3, none⟩ (.slice A6 q c6)) (.slice Aq np cq) (.slice Ax k cx) (.slice Ac nm cc) ps R ms :=
        OW6.mv hM (fun g hg c => by have := (own_lt OW.p hg).2; omega) (fun g hg c => by have := (own_lt OW.r hg).2; omega) (fun g hg c => by have := (own_lt OW.m hg).2; omega) (fun x hx g hg c => by have := (own_lt (OW.t x hx) hg).2; omega)
      have ot7 : OT (w6.setCell ⟨wr.heap.size, 3, none⟩ (.slice A6 q c6)) (w.heap.size + 1 + 1) (.slice A6 q c6) vals := own_mv (own_mono ot6 (by have := S.lt; simp; omega)) hM (fun g hg c => by have := (own_lt ot6 hg).1; simp at this; omega)
      obtain ⟨x, hx⟩ : ∃ x, x = Rp.mk rc rn re A6 c6 vals := ⟨_, rfl⟩
      have hxa : x.arr = #[.int .i64 rc, .int .i64 rn, .int .i64 re, .slice A6 q c6] := by rw [hx, ← hq]; rfl
      have hxv : x.v = .slice A6 q c6 := by rw [hx, ← hq]; rfl
      have hxd : x.d = (rc, rn, re, vals) := by rw [hx]; rfl
      have hxo : x.ok := by rw [hx]; exact ⟨hok.c, hok.n, hok.l, hok.s⟩
      have hxt : x.vals = vals := by rw [hx]
      have h100 : R.length ≤ 100000 := by omega
      obtain ⟨v9, w9, r9, o9, m9, b9⟩ := rep_push 23 (by rw [hl]; have := OW7.r; rw [hl] at this; exact this) x h100 (by have h1 := S7.lt; have h2 := S7.olt; omega)
      have OW9 := OW7.push hxo (by simp; exact S6.olt) (by rw [hxv, hxt]; exact ot7) (fun j hj => by
        rw [hxv] at hj
        have := (own_lt ot6 hj).1
        simp at this
        exact ⟨by omega, fun c => by have := (own_lt OW.p c).2; omega, fun c => by have := (own_lt OW.r c).2; omega⟩) o9 m9 (b9.imp id (fun h => ⟨_, h, by simp⟩))
      have S9 := S7.mv m9 (fun i hi => ⟨(own_lt OW.r hi).1, (OW.ar i hi).1⟩)
      obtain ⟨A9, c9, hv9, -, -⟩ := own_shape o9
      subst hv9
      rw [hl] at r9 OW9
      have hbs : ∀ W : World, (bsRow 23 1 #[(0, .agg #[.int .i64 rc, .int .i64 rn, .int .i64 re, .slice A6 q c6])]).run Tryd.prog W = .ok (.slice (some ⟨W.heap.size, 0, none⟩) 1 1) (W.alloc (.cells #[.int .i64 rc, .int .i64 rn, .int .i64 re, .slice A6 q c6] 43)) := fun W => by
        have := bs_M1R hxo W
        rw [hxa] at this
        exact this
      rw [hxa] at r9
      have f91 := S9.fo 1
      have c91 : w9.cell? ⟨w3.heap.size, 1, none⟩ = some (.slice Ax k cx) := S9.co 1 rfl
      have S10 := S9.set 1 (.slice A9 (k + 1) c9)
      have OW10 := OW9.setO 1 (.slice A9 (k + 1) c9)
      have hd10 : (R ++ [x]).map Rp.d = (rs.take (k + 1)).map Rp.d := by rw [htk, List.map_append, hd, List.map_singleton, hxd]; rfl
      have E2 := Lib.hid (And.intro S10 (And.intro OW10 (And.intro hd10 (show (R ++ [x]).length = k + 1 by rw [List.length_append, hl]; rfl))))
      have nb : ¬ wr.heap.size = w3.heap.size := by omega
      have nb' : ¬ w3.heap.size = wr.heap.size := by omega
      simp only [World.size_setCell] at r9
      clear S10 OW10 hd10 S9 OW9 o9 m9 b9 h100 hxt hxo hxd hxv hxa hx ot7 OW7 S7 hM hg6 OW6 S6 ot6 OW hg5 OW5 S5 hl hd hok htk hq hb6 E ht5 hs ht HS
      go_wp2_with fail
      go_roundw
      case rel => exact ⟨k + 1, by omega, by go_num, A9, c9, R ++ [x], E2.out.1, E2.out.2.2.2, E2.out.2.1, E2.out.2.2.1⟩
      case measure => simp [intOf]; omega
    · have hkn : k = nr := by omega
      subst hkn
      have hrow := S.row rfl
      obtain ⟨p1, p2, -⟩ := S.z.put (cs := #[.slice Aq np cq, .slice Ax k cx, .int .i64 ep, .slice Ac nm cc]) rfl (by simp [oneCells, Value.oneCell'])
      have OWz := OW.mv (Mv.setRow (fp := (· = w.heap.size + 1)) wr (w.heap.size + 1) #[.slice Aq np cq, .slice Ax k cx, .int .i64 ep, .slice Ac nm cc] rfl) (fun g hg c => by have := (own_lt OW.p hg).1; omega) (fun g hg c => by have := (own_lt OW.r hg).1; omega) (fun g hg c => by have := (own_lt OW.m hg).1; omega) (fun x hx g hg c => by have := (own_lt (OW.t x hx) hg).1; omega)
      have E := Lib.hid (And.intro (OWz.base (B' := w.heap.size) (by omega)) (And.intro hd (below_setRow S.b (Nat.le_succ _) #[.slice Aq np cq, .slice Ax k cx, .int .i64 ep, .slice Ac nm cc])))
      clear S OW hd HS OWz
      go_wp2_with fail
      refine bodyPost_ret (v := .agg #[.slice Aq np cq, .slice Ax k cx, .int .i64 ep, .slice Ac nm cc]) (by rw [results_cell1 Tryd.results18]; simp [go_sem, p2]) rfl ?_
      exact ⟨_, _, _, R, w3.heap.size, rfl, E.out.1, by rw [E.out.2.1, ← HN.out.2.1, List.take_length], E.out.2.2⟩
end Go.Proofs.YthaeofiplhbggaaDoor
