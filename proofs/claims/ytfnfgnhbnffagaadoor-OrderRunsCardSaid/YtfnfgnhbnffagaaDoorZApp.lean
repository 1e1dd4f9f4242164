/-
A request is executed.
-/
import Derived.Test.YtfnfgnhbnffagaaDoorZDo
namespace Go.Proofs.YtfnfgnhbnffagaaDoor
open Go.RowKit
set_option linter.unusedVariables false
set_option linter.unusedSimpArgs false
set_option maxRecDepth 100000
@[go_sem] theorem Rq.cutAll {q : Rq} (h : q.arr.size = 42) : cut q.arr 0 42 = some q.arr := cut_all _ _ h
theorem BoxS.mv {B O : Nat} {fp : Nat → Prop} {w w' : World} {vp vr vm : Value} {ps : List Pr} {rs : List Rp} {ep : Int} {ms : List Mb} (h : BoxS B O w vp vr vm ps rs ep ms) (m : Mv fp w w') (hf : ∀ i, fp i → i < B ∨ w.heap.size ≤ i) (ho : ¬ fp O) : BoxS B O w' vp vr vm ps rs ep ms :=
  ⟨(m.block _ h.lt ho).trans h.o, h.s.mv m (fun g hg c => by have := own_lt h.s.p hg; have := hf g c; omega) (fun g hg c => by have := own_lt h.s.r hg; have := hf g c; omega) (fun g hg c => by have := own_lt h.s.m hg; have := hf g c; omega) (fun x hx g hg c => by have := own_lt (h.s.t x hx) hg; have := hf g c; omega)⟩
theorem results_cc {fn : Func} {p u : Tmp} {t1 t2 : TypeId} (h : fn.results = #[.cell p t1, .cell u t2]) (tmps : Array Value) (P : Program) (w : World) :
    (results fn tmps).run P w = ((asAddr (tmps.getD p undef)).run P w).andThen fun a w₁ => ((loadVar t1 a).run P w₁).andThen fun x w₂ => ((asAddr (tmps.getD u undef)).run P w₂).andThen fun b w₃ => ((loadVar t2 b).run P w₃).andThen fun y w₄ => .ok (.tuple #[x, y]) w₄ := by
  simp only [results, h]
  simp [Sem.run_bind, Result.andThen]
theorem rowAt_setRow_other (w : World) (g : Nat) (c : Array Value) (b o n : Nat) (h : b ≠ g) : rowAt (w.setRow g c) b o n = rowAt w b o n := by
  unfold rowAt
  rw [setRow_other w g b c h]
/-- other replies in the box -/
theorem BoxS.setR {B O : Nat} {w w' : World} {vp vr vr' vm : Value} {ps : List Pr} {rs rs' : List Rp} {ep : Int} {ms : List Mb} (h : BoxS B O w vp vr vm ps rs ep ms) {x : Rp} (hx : x.ok)
    (ht : OT w B x.v x.vals) (hxb : ∀ k, x.v.ownBlock = some k → k ≠ O ∧ vp.ownBlock ≠ some k ∧ vr.ownBlock ≠ some k) (hmem : ∀ y ∈ rs', y ∈ rs ∨ y = x)
    (ho : w'.ownsRow B 49 4 vr' rs'.length (flatC Rp.cells rs')) (m : Mv (fun k => vr.ownBlock = some k) w w') (hb : vr'.ownBlock = vr.ownBlock ∨ ∃ g, vr'.ownBlock = some g ∧ w.heap.size ≤ g) :
    w'.cell? ⟨O, 1, none⟩ = some vr ∧ w'.frozen? ⟨O, 1, none⟩ = false ∧ BoxS B O (w'.setCell ⟨O, 1, none⟩ vr') vp vr' vm ps rs' ep ms := by
  have ho' : w'.heap[O]? = some (.cells #[vp, vr, .int .i64 ep, vm] 28 (0, 0)) := (m.block _ h.lt (fun c => (h.s.ar _ c).1 rfl)).trans h.o
  refine ⟨by rw [cell_of_row _ _ _ _ _ _ ho']; rfl, by simp [World.frozen?, ho'], ?_, (h.s.newR hx h.lt ht hxb hmem ho m hb).setO 1 vr'⟩
  rw [heap_setCell_same _ _ _ _ _ _ ho']; rfl
/-- a state of the walk: the boxes of the two arguments, of the two results, of the reply -/
structure Apf (W : World) (sa qa aa : Array Value) (w : World) : Prop where
  b : Below W.heap.size W w
  s : w.heap[W.heap.size]? = some (.cells sa 28 (0, 0))
  q : w.heap[W.heap.size + 1]? = some (.cells qa 46 (0, 0))
  z : Bx w (W.heap.size + 2) 4 28
  y : Bx w (W.heap.size + 3) 4 49
  a : w.heap[W.heap.size + 4]? = some (.cells aa 49 (0, 0))
theorem Apf.lt {W w : World} {sa qa aa : Array Value} (h : Apf W sa qa aa w) : W.heap.size + 4 < w.heap.size := (Array.getElem?_eq_some_iff.1 h.a).1
theorem Apf.mv {fp : Nat → Prop} {W w w' : World} {sa qa aa : Array Value} (h : Apf W sa qa aa w) (m : Mv fp w w') (hf : ∀ i, fp i → W.heap.size + 4 < i) : Apf W sa qa aa w' := by
  have hl := h.lt
  have hn : ∀ k, k ≤ W.heap.size + 4 → w'.heap[k]? = w.heap[k]? := fun k hk => m.block k (by omega) (fun c => by have := hf k c; omega)
  exact ⟨h.b.trans (m.below h.b.size (fun i hi => by have := hf i hi; omega)), (hn _ (by omega)).trans h.s, (hn _ (by omega)).trans h.q, h.z.of_block (hn _ (by omega)), h.y.of_block (hn _ (by omega)), (hn _ (by omega)).trans h.a⟩
theorem Apf.below {W w w' : World} {sa qa aa : Array Value} (h : Apf W sa qa aa w) (hb : Below w.heap.size w w') : Apf W sa qa aa w' := h.mv (Mv.of_below (fp := fun _ => False) hb) (fun _ c => c.elim)
theorem Apf.setA {W w : World} {sa qa aa : Array Value} (h : Apf W sa qa aa w) (i : Nat) (v : Value) : Apf W sa qa (aa.setIfInBounds i v) (w.setCell ⟨W.heap.size + 4, i, none⟩ v) := by
  have hn : ∀ k, k ≠ W.heap.size + 4 → (w.setCell ⟨W.heap.size + 4, i, none⟩ v).heap[k]? = w.heap[k]? := fun k hk => heap_setCell_other _ _ _ _ (by simpa using hk)
  exact ⟨h.b.trans ((Mv.setCell (fp := (· = W.heap.size + 4)) w ⟨W.heap.size + 4, i, none⟩ v rfl).below h.b.size (fun i hi => by omega)), (hn _ (by omega)).trans h.s, (hn _ (by omega)).trans h.q, h.z.of_block (hn _ (by omega)), h.y.of_block (hn _ (by omega)), heap_setCell_same _ _ _ _ _ _ h.a⟩
theorem Apf.start (W : World) (sa qa aa z y : Array Value) (hz : z.size = 4) (hy : y.size = 4) : Apf W sa qa aa (((((W.alloc (.cells sa 28)).alloc (.cells qa 46)).alloc (.cells z 28)).alloc (.cells y 49)).alloc (.cells aa 49)) := by
  have e : ∀ (w : World) (o : Obj) (k : Nat), k = w.heap.size → (w.alloc o).heap[k]? = some o := fun w o k hk => by subst hk; exact heap_alloc_new w o
  have p : ∀ (w : World) (o : Obj) (k : Nat) (x : Obj), w.heap[k]? = some x → (w.alloc o).heap[k]? = some x := fun w o k x hx => (Below.heap_alloc w o k (Array.getElem?_eq_some_iff.1 hx).1).trans hx
  have q : ∀ (w : World) (o : Obj), W.heap.size ≤ w.heap.size → Below W.heap.size W w → Below W.heap.size W (w.alloc o) := fun w o hs hb => hb.alloc hs o
  refine ⟨?_, ?_, ?_, ⟨z, ?_, hz⟩, ⟨y, ?_, hy⟩, ?_⟩
  · exact q _ _ (by simp; omega) (q _ _ (by simp; omega) (q _ _ (by simp; omega) (q _ _ (by simp) (q _ _ (Nat.le_refl _) (Below.refl _ _)))))
  · exact p _ _ _ _ (p _ _ _ _ (p _ _ _ _ (p _ _ _ _ (e _ _ _ rfl))))
  · exact p _ _ _ _ (p _ _ _ _ (p _ _ _ _ (e _ _ _ (by simp))))
  · exact p _ _ _ _ (p _ _ _ _ (e _ _ _ (by simp)))
  · exact p _ _ _ _ (e _ _ _ (by simp))
  · exact e _ _ _ (by simp)
/-- a registry of its own blocks -/
def OwnV (B : Nat) (w : World) (v : Value) (ps : List Pr) (rs : List Rp) (ep : Int) (ms : List Mb) : Prop :=
  ∃ O vp vr vm, v = .agg #[vp, vr, .int .i64 ep, vm] ∧ OwnS B O w vp vr vm ps rs ms ∧ ps.length ≤ 140737488355328 ∧ rs.length ≤ 140737488355328 ∧ ms.length ≤ 140737488355328
theorem OwnV.sts {B : Nat} {w : World} {v : Value} {ps : List Pr} {rs : List Rp} {ep : Int} {ms : List Mb} (h : OwnV B w v ps rs ep ms) : StS w v ps rs ep ms := by
  obtain ⟨O, vp, vr, vm, rfl, h1, h2, h3, h4⟩ := h
  exact h1.sts ep h2 h3 h4
theorem OwnV.mv {B : Nat} {fp : Nat → Prop} {w w' : World} {v : Value} {ps : List Pr} {rs : List Rp} {ep : Int} {ms : List Mb} (h : OwnV B w v ps rs ep ms) (m : Mv fp w w') (hf : ∀ i, fp i → i < B ∨ w.heap.size ≤ i) : OwnV B w' v ps rs ep ms := by
  obtain ⟨O, vp, vr, vm, rfl, h1, h2, h3, h4⟩ := h
  exact ⟨O, vp, vr, vm, rfl, h1.mv m (fun g hg c => by have := own_lt h1.p hg; have := hf g c; omega) (fun g hg c => by have := own_lt h1.r hg; have := hf g c; omega) (fun g hg c => by have := own_lt h1.m hg; have := hf g c; omega) (fun x hx g hg c => by have := own_lt (h1.t x hx) hg; have := hf g c; omega), h2, h3, h4⟩
theorem OwnV.base {B B' : Nat} {w : World} {v : Value} {ps : List Pr} {rs : List Rp} {ep : Int} {ms : List Mb} (h : OwnV B w v ps rs ep ms) (hb : B' ≤ B) : OwnV B' w v ps rs ep ms := by
  obtain ⟨O, vp, vr, vm, rfl, h1, h2, h3, h4⟩ := h
  exact ⟨O, vp, vr, vm, rfl, h1.base hb, h2, h3, h4⟩
/-- what Apply answers where a request is executed -/
def ApEnd (q : Rq) (D : Int → List ByteArray → List Pr → Int → List Mb → Prop) (R : Int → List ByteArray → List (Int × Int × Int × List ByteArray)) (w : World) (e : Ending) (w' : World) : Prop :=
  ∃ v' vals code out ps' rs' ep' ms', e = .returned (.tuple #[v', .agg #[.int .i64 q.client, .int .i64 q.num, .int .i64 code, vals]]) ∧ OwnV w.heap.size w' v' ps' rs' ep' ms' ∧ OT w' w.heap.size vals out ∧ out.length ≤ 100000 ∧ D code out ps' ep' ms' ∧ rs'.map Rp.d = R code out ∧ Below w.heap.size w w'
set_option maxHeartbeats 4000000 in
theorem apply_new (v : Value) (ps : List Pr) (rs : List Rp) (ep : Int) (ms : List Mb) (q : Rq) (w : World) (h : StS w v ps rs ep ms) (hq : q.ok) (hg : rqGood q = true) (hl : lastB rs q.client = false) (hm : ms.length ≤ 100000) (hp : ps.length ≤ 100000) (hr : rs.length ≤ 99999)
    (D : Int → List ByteArray → List Pr → Int → List Mb → Prop) (hdo : ∀ (B O : Nat) (vp vr vm : Value) (rs' : List Rp) (w1 : World), BoxS B O w1 vp vr vm ps rs' ep ms → B ≤ w1.heap.size → Below w.heap.size w w1 → Calls Tryd.prog 26 #[.pointer (some ⟨O, 0, none⟩), .agg q.op.arr] w1 (DoesEnd B O vp vr vm ps rs' ep ms D w1))
    (hout : ∀ code out ps' ep' ms', D code out ps' ep' ms' → (∀ s ∈ out, s.size ≤ 140737488355328) ∧ ps'.length ≤ 140737488355328 ∧ ms'.length ≤ 140737488355328) :
    Calls Tryd.prog 17 #[v, .agg q.arr] w (ApEnd q D (fun c o => (rs.map Rp.d).take (lastI rs q.client) ++ (q.client, q.num, c, o) :: (rs.map Rp.d).drop (lastI rs q.client)) w) := by
  have H0 := Lib.hid h
  obtain ⟨Ap, cp, Ar, cr, Am, cm, rfl, h1, h2, h3, h4, h5, h6, h7⟩ := h.ex
  obtain ⟨np, hnp⟩ : ∃ n, ps.length = n := ⟨_, rfl⟩
  obtain ⟨nr, hnr⟩ : ∃ n, rs.length = n := ⟨_, rfl⟩
  obtain ⟨nm, hnm⟩ : ∃ n, ms.length = n := ⟨_, rfl⟩
  have hil := lastI_le rs q.client
  rw [hnr] at h3 hil
  have HN := Lib.hid (And.intro hnp (And.intro hnr (And.intro hnm (And.intro hm (And.intro hp hr)))))
  rw [hnp, hnr, hnm] at H0 ⊢
  clear h h1 h2 h4 h5 h6 h7 hnp hnr hnm hm hp hr
  have S5 := Apf.start w #[.slice Ap np cp, .slice Ar nr cr, .int .i64 ep, .slice Am nm cm] q.arr #[.int .i64 q.client, .int .i64 q.num, .int .i64 0, .slice none 0 0] #[.slice none 0 0, .slice none 0 0, .int .i64 0, .slice none 0 0] #[.int .i64 0, .int .i64 0, .int .i64 0, .slice none 0 0] rfl rfl
  have q0 := q.at0
  have q1 := q.at1
  have qs := Rq.sz hq
  have qo := Rq.ones q
  have qc := Rq.cutAll (Rq.size hq)
  have HL := Lib.hid hl
  have HD := Lib.hid hdo
  have HQ := Lib.hid hq
  generalize hI : lastI rs q.client = i at hil
  have HI := Lib.hid hI
  clear hdo hl hI
  go_enter Tryd.func17, Tryd.ntmps17
  go_wp2_with fail
  refine (qGood_any HQ.out _).mono ?_
  rw [hg]
  rintro e w6 ⟨rfl, hb6⟩
  have S6 := S5.below hb6
  have k0 : rowAt w6 w.heap.size 0 4 = some #[.slice Ap np cp, .slice Ar nr cr, .int .i64 ep, .slice Am nm cm] := by unfold rowAt; rw [S6.s]; exact cut_all _ _ rfl
  have k1 : w6.cell? ⟨w.heap.size + 1, 0, none⟩ = some (.int .i64 q.client) := by rw [cell_of_row _ _ _ _ _ _ S6.q]; exact q0
  clear S5 hb6
  go_wp2_with fail
  refine (last_any _ _ Ar nr cr ep rs q.client _ (h3.below S6.b)).mono ?_
  rw [HL.out, HI.out]
  rintro e w7 ⟨rfl, hb7⟩
  have S7 := S6.below hb7
  clear S6 hb7 k0 k1
  have k0 : rowAt w7 w.heap.size 0 4 = some #[.slice Ap np cp, .slice Ar nr cr, .int .i64 ep, .slice Am nm cm] := by unfold rowAt; rw [S7.s]; exact cut_all _ _ rfl
  go_wp2_with fail
  go_quiet (fail)
  have S8 := S7.below (below_drewN (Below.refl w7.heap.size w7) nq)
  generalize w7.drewN nq = w8 at S8 ⊢
  clear S7 k0
  have k0 : rowAt w8 w.heap.size 0 4 = some #[.slice Ap np cp, .slice Ar nr cr, .int .i64 ep, .slice Am nm cm] := by unfold rowAt; rw [S8.s]; exact cut_all _ _ rfl
  go_wp2_with fail
  refine (copied_any _ ps rs ep ms _ (H0.out.below S8.b) HN.out.2.2.2.1 HN.out.2.2.2.2.1 (by have := HN.out.2.2.2.2.2; omega)).mono ?_
  rintro e w9 ⟨vp, vr, vm, R, O', rfl, OW9, hRd, hb9⟩
  have S9 := S8.below hb9
  obtain ⟨Aq, cq, hvp, -, -⟩ := own_shape OW9.p
  obtain ⟨Ax, cx, hvr, -, -⟩ := own_shape OW9.r
  obtain ⟨Ac, cc, hvm, -, -⟩ := own_shape OW9.m
  have hRl : R.length = nr := by
    have := congrArg List.length hRd
    rw [List.length_map, List.length_map, HN.out.2.1] at this
    exact this
  rw [HN.out.1] at hvp
  rw [hRl] at hvr
  rw [HN.out.2.2.1] at hvm
  subst hvp hvr hvm
  have HVR := Lib.hid (show ∀ k, (Value.slice Ax nr cx).ownBlock = some k → k < w9.heap.size from fun k hk => (own_lt OW9.r hk).2)
  clear k0
  have kl := S9.lt
  have k2 : rowAt w9 (w.heap.size + 1) 2 40 = some q.op.arr := by unfold rowAt; rw [S9.q]; exact Rq.cutOp HQ.out
  have b10 : Below w9.heap.size w9 (w9.alloc (.cells #[.slice Aq np cq, .slice Ax nr cx, .int .i64 ep, .slice Ac nm cc] 28)) := (Below.refl _ _).alloc (Nat.le_refl _) _
  have BX : BoxS w8.heap.size w9.heap.size (w9.alloc (.cells #[.slice Aq np cq, .slice Ax nr cx, .int .i64 ep, .slice Ac nm cc] 28)) (.slice Aq np cq) (.slice Ax nr cx) (.slice Ac nm cc) ps R ep ms :=
    ⟨heap_alloc_new w9 _, (OW9.box (.inr (Nat.le_refl _))).below b10⟩
  have S10 := S9.below b10
  have hdo := HD.out _ _ _ _ _ R _ BX (Nat.le_trans hb9.size b10.size) S10.b
  have l9 : w.heap.size + 4 < w8.heap.size := S8.lt
  have l10 : w8.heap.size ≤ w9.heap.size := hb9.size
  have E9 := Lib.hid (And.intro BX (And.intro S10 (And.intro hRd hRl)))
  clear S8 S9 OW9 hb9 BX S10 hRd hRl b10
  have kl' : w.heap.size + 1 < w9.heap.size := by omega
  go_wp2_with fail
  refine hdo.mono ?_
  rintro e w11 ⟨code, vals, out, vp', vm', ps', ep', ms', rfl, BX11, OT11, hol, mv11, hD⟩
  obtain ⟨BX, S10, hRd, hRl⟩ := E9.out
  have S11 := S10.mv mv11 (fun k hk => by rcases hk with rfl | hk; omega; have := (own_lt BX.s.p hk).1; omega)
  obtain ⟨Av, cv, rfl⟩ := ot_shape OT11 rfl
  obtain ⟨no, hno⟩ : ∃ n, out.length = n := ⟨_, rfl⟩
  rw [hno] at OT11 ⊢
  have f2 : w11.frozen? ⟨w.heap.size + 1 + 1 + 1 + 1, 2, none⟩ = false := by simp [World.frozen?, S11.a]
  have f3 : w11.frozen? ⟨w.heap.size + 1 + 1 + 1 + 1, 3, none⟩ = false := by simp [World.frozen?, S11.a]
  have c2 : w11.cell? ⟨w.heap.size + 1 + 1 + 1 + 1, 2, none⟩ = some (.int .i64 0) := by rw [cell_of_row _ _ _ _ _ _ S11.a]; rfl
  have c3 : w11.cell? ⟨w.heap.size + 1 + 1 + 1 + 1, 3, none⟩ = some (.slice none 0 0) := by rw [cell_of_row _ _ _ _ _ _ S11.a]; rfl
  obtain ⟨w12, hw12⟩ : ∃ w12, (w11.setCell ⟨w.heap.size + 1 + 1 + 1 + 1, 2, none⟩ (.int .i64 code)).setCell ⟨w.heap.size + 1 + 1 + 1 + 1, 3, none⟩ (.slice Av no cv) = w12 := ⟨_, rfl⟩
  have S12 : Apf w #[.slice Ap np cp, .slice Ar nr cr, .int .i64 ep, .slice Am nm cm] q.arr #[.int .i64 q.client, .int .i64 q.num, .int .i64 code, .slice Av no cv] w12 := by
    rw [← hw12]; exact (S11.setA 2 (.int .i64 code)).setA 3 (.slice Av no cv)
  have m12 : Mv (· = w.heap.size + 4) w11 w12 := by
    rw [← hw12]; exact (Mv.setCell (fp := (· = w.heap.size + 4)) _ _ _ rfl).trans (Mv.setCell (fp := (· = w.heap.size + 4)) _ _ _ rfl) (fun _ _ c => c)
  have BX12 := BX11.mv m12 (fun k hk => by omega) (fun c => by omega)
  have h11 : w9.heap.size + 1 ≤ w11.heap.size := by have := mv11.size; simpa using this
  have OT12 : OT w12 (w9.heap.size + 1) (.slice Av no cv) out := own_mv (own_mono (by unfold OT at OT11; exact OT11) (by simp)) m12 (fun g hg c => by have := (own_lt OT11 hg).1; simp at this; omega)
  obtain ⟨Av', cv', hve, T12, K12⟩ := OT12.ts (by omega)
  rw [hno] at hve T12 K12
  cases hve
  have l12 : w11.heap.size ≤ w12.heap.size := m12.size
  have r12 : rowAt w12 (w.heap.size + 1 + 1 + 1 + 1) 0 4 = some #[.int .i64 q.client, .int .i64 q.num, .int .i64 code, .slice Av no cv] := by unfold rowAt; rw [S12.a]; exact cut_all _ _ rfl
  have b13 : Below w12.heap.size w12 (w12.alloc (.cells #[.int .i64 q.client, .int .i64 q.num, .int .i64 code, .slice Av no cv] 49)) := (Below.refl _ _).alloc (Nat.le_refl _) _
  have c123 : w12.cell? ⟨w.heap.size + 1 + 1 + 1 + 1, 3, none⟩ = some (.slice Av no cv) := by rw [cell_of_row _ _ _ _ _ _ S12.a]; rfl
  have l121 : w.heap.size + 1 + 1 + 1 + 1 < w12.heap.size := S12.lt
  have T13 := T12.below b13
  have E12 := Lib.hid (And.intro S12 (And.intro BX12 (And.intro OT12 (And.intro hol (And.intro hD (And.intro hno (And.intro b13 (And.intro hRd (And.intro hRl (And.intro h11 l12))))))))))
  clear S12 BX12 OT12 hol hD hno b13 S11 BX11 OT11 mv11 m12 BX S10 hRd hRl E9 h11 l12 T12 hdo
  go_wp2_with fail
  clear hw12 f2 f3 c2 c3
  refine (cloneS_any Av no cv out _ T13 K12).mono ?_
  rintro e w14 ⟨v14, rfl, OT14, hb14⟩
  obtain ⟨S12, BX12, OT12, hol, hD, hno, b13, hRd, hRl, h11, l12⟩ := E12.out
  obtain ⟨A14, c14, hv14, -, -⟩ := OT14.ts (by omega)
  rw [hno] at hv14
  subst hv14
  have b14 := b13.trans (hb14.mono b13.size)
  have S14 := S12.below b14
  have BX14 := BX12.below b14
  have OTv14 := OT12.below b14
  have hg14 := (hb14.block _ (by simp)).trans (heap_alloc_new w12 (.cells #[.int .i64 q.client, .int .i64 q.num, .int .i64 code, .slice Av no cv] 49))
  have f143 : w14.frozen? ⟨w12.heap.size, 3, none⟩ = false := by simp [World.frozen?, hg14]
  have c143 : w14.cell? ⟨w12.heap.size, 3, none⟩ = some (.slice Av no cv) := by rw [cell_of_row _ _ _ _ _ _ hg14]; rfl
  obtain ⟨w15, hw15⟩ : ∃ w15, w14.setCell ⟨w12.heap.size, 3, none⟩ (.slice A14 no c14) = w15 := ⟨_, rfl⟩
  have m15 : Mv (· = w12.heap.size) w14 w15 := by rw [← hw15]; exact Mv.setCell _ _ _ rfl
  have z15 : w15.heap.size = w14.heap.size := by rw [← hw15]; simp
  have lO := BX12.lt
  have S15 := S14.mv m15 (fun k hk => by omega)
  have BX15 : BoxS w8.heap.size w9.heap.size w15 vp' (.slice Ax nr cx) vm' ps' R ep' ms' :=
    ⟨(m15.block _ BX14.lt (fun c => by omega)).trans BX14.o, BX14.s.mv m15 (fun g hg c => by have := (own_lt BX12.s.p hg).2; omega) (fun g hg c => by have := (own_lt BX12.s.r hg).2; omega) (fun g hg c => by have := (own_lt BX12.s.m hg).2; omega) (fun x hx g hg c => by have := (own_lt (BX12.s.t x hx) hg).2; omega)⟩
  have OTv15 : OT w15 (w9.heap.size + 1) (.slice Av no cv) out := own_mv OTv14 m15 (fun g hg c => by have := (own_lt OT12 hg).2; omega)
  have OT15 : OT w15 (w12.heap.size + 1) (.slice A14 no c14) out := own_mv (by unfold OT at OT14; simpa using OT14) m15 (fun g hg c => by have := (own_lt OT14 hg).1; simp at this; omega)
  have r15 : rowAt w15 w12.heap.size 0 4 = some #[.int .i64 q.client, .int .i64 q.num, .int .i64 code, .slice A14 no c14] := by
    unfold rowAt
    rw [← hw15, heap_setCell_same _ _ _ _ _ _ hg14]
    exact cut_all _ _ rfl
  have c151 : w15.cell? ⟨w9.heap.size, 1, none⟩ = some (.slice Ax nr cx) := by rw [cell_of_row _ _ _ _ _ _ BX15.o]; rfl
  have hszs := (hout _ _ _ _ _ hD).1
  obtain ⟨x, hx⟩ : ∃ x, x = Rp.mk q.client q.num code A14 c14 out := ⟨_, rfl⟩
  have hxa : x.arr = #[.int .i64 q.client, .int .i64 q.num, .int .i64 code, .slice A14 no c14] := by rw [hx, ← hno]; rfl
  have hxv : x.v = .slice A14 no c14 := by rw [hx, ← hno]; rfl
  have hxd : x.d = (q.client, q.num, code, out) := by rw [hx]; rfl
  have hxo : x.ok := by rw [hx]; exact ⟨HQ.out.c, HQ.out.n, by show out.length ≤ _; omega, hszs⟩
  have hxt : x.vals = out := by rw [hx]
  have hbs : ∀ W : World, (bsRow 23 1 #[(0, .agg #[.int .i64 q.client, .int .i64 q.num, .int .i64 code, .slice A14 no c14])]).run Tryd.prog W = .ok (.slice (some ⟨W.heap.size, 0, none⟩) 1 1) (W.alloc (.cells #[.int .i64 q.client, .int .i64 q.num, .int .i64 code, .slice A14 no c14] 49)) := fun W => by
    have := bs_M1R hxo W
    rw [hxa] at this
    exact this
  have lS := S12.lt
  have E15 := Lib.hid (And.intro S15 (And.intro BX15 (And.intro OTv15 (And.intro OT15 (And.intro hol (And.intro hD (And.intro hno (And.intro hRd (And.intro hRl (And.intro hxa (And.intro hxv (And.intro hxd (And.intro hxo (And.intro hxt (And.intro lO (And.intro lS (And.intro BX12 b14.size)))))))))))))))))
  clear S15 BX15 OTv15 OT15 hol hD hno hRd hRl hxa hxv hxd hxo hxt hszs hg14 S14 BX14 OTv14 OT14 hb14 b14 b13 S12 BX12 OT12 E12 m15 T13 K12 hx
  go_wp2_with fail
  obtain ⟨S15, BX15, OTv15, OT15, hol, hD, hno, hRd, hRl, hxa, hxv, hxd, hxo, hxt, lO, lS, BX12, l14⟩ := E15.out
  have hnr9 : nr ≤ 99999 := by have h1 := HN.out.2.2.2.2.2; have h2 := HN.out.2.1; omega
  have hvb := heap_alloc_new w15 (.cells #[.int .i64 q.client, .int .i64 q.num, .int .i64 code, .slice A14 no c14] 49)
  rw [z15, ← hxa] at hvb
  have hBB : w8.heap.size ≤ w15.heap.size := by omega
  have hins := insertR (i := i) (BX15.s.r.alloc (.cells x.arr 49)) BX15.s.okr hxo (by omega) (by omega) (by simp; omega) hvb (fun e => by have := (own_lt BX15.s.r e).2; omega)
  rw [hxa] at hins
  refine hins.mono ?_
  rintro e w17 ⟨v17, rfl, own17, gr17, hat⟩
  have hl17 : R.length + 1 = (R.take i ++ x :: R.drop i).length := by
    rw [List.length_append, List.length_cons, List.length_take, List.length_drop]; omega
  rw [hl17] at own17
  have m17 : Mv (fun k => (Value.slice Ax nr cx).ownBlock = some k) w15 w17 := (Mv.alloc w15 _).trans (Mv.of_grown (fp := fun k => (Value.slice Ax nr cx).ownBlock = some k) gr17 (fun k hk => hk)) (fun _ _ c => c)
  obtain ⟨c17, f17, BX18⟩ := BX15.setR (rs' := R.take i ++ x :: R.drop i) hxo (by rw [hxv, hxt]; exact own_mono OT15 (by omega)) (fun k hk => by
      rw [hxv] at hk
      have h1 := (own_lt OT15 hk).1
      exact ⟨by omega, fun c => by have := (own_lt BX12.s.p c).2; omega, fun c => by have := (own_lt BX12.s.r c).2; omega⟩) (fun y hy => by
      rcases List.mem_append.1 hy with hy | hy
      · exact .inl (List.mem_of_mem_take hy)
      · rcases List.mem_cons.1 hy with rfl | hy
        · exact .inr rfl
        · exact .inl (List.mem_of_mem_drop hy)) own17 m17 (hat.imp id (fun ⟨g, h1, h2⟩ => ⟨g, h1, by simp at h2; omega⟩))
  have S17 := S15.mv m17 (fun k hk => by have := (own_lt BX12.s.r hk).1; omega)
  have S18 := S17.mv (Mv.setCell (fp := (· = w9.heap.size)) w17 ⟨w9.heap.size, 1, none⟩ v17 rfl) (fun k hk => by omega)
  obtain ⟨Apz, cpz, hvpz, -, -⟩ := own_shape BX18.s.p
  obtain ⟨Arz, crz, hvrz, -, -⟩ := own_shape BX18.s.r
  obtain ⟨Amz, cmz, hvmz, -, -⟩ := own_shape BX18.s.m
  subst hvpz hvrz hvmz
  have hrd : (R.take i ++ x :: R.drop i).map Rp.d = (rs.map Rp.d).take i ++ (q.client, q.num, code, out) :: (rs.map Rp.d).drop i := by
    rw [List.map_append, List.map_cons, List.map_take, List.map_drop, hRd, hxd]
  have OT18 : OT (w17.setCell ⟨w9.heap.size, 1, none⟩ (.slice Arz (R.take i ++ x :: R.drop i).length crz)) (w9.heap.size + 1) (.slice Av no cv) out :=
    own_mv (own_mv OTv15 m17 (fun g hg c => by have h1 := (own_lt OTv15 hg).1; have h2 := HVR.out g c; omega)) (Mv.setCell (fp := (· = w9.heap.size)) _ _ _ rfl) (fun g hg c => by have h1 := (own_lt OTv15 hg).1; omega)
  obtain ⟨w18, hw18⟩ : ∃ w18, w17.setCell ⟨w9.heap.size, 1, none⟩ (.slice Arz (R.take i ++ x :: R.drop i).length crz) = w18 := ⟨_, rfl⟩
  rw [hw18] at S18 BX18 OT18
  obtain ⟨hp1, hp2, hp3⟩ := hout _ _ _ _ _ hD
  generalize hlz : (R.take i ++ x :: R.drop i).length = nrz at *
  have o18 := BX18.row
  have a18 : rowAt w18 (w.heap.size + 1 + 1 + 1 + 1) 0 4 = some #[.int .i64 q.client, .int .i64 q.num, .int .i64 code, .slice Av no cv] := by unfold rowAt; rw [S18.a]; exact cut_all _ _ rfl
  replace S18 := S18.below ((Below.refl w18.heap.size w18).drew)
  replace BX18 := BX18.below ((Below.refl w18.heap.size w18).drew)
  replace OT18 := OT18.below ((Below.refl w18.heap.size w18).drew)
  have hfin : ∀ w20, w20 = (w18.drew.setRow (w.heap.size + 1 + 1) #[.slice Apz ps'.length cpz, .slice Arz nrz crz, .int .i64 ep', .slice Amz ms'.length cmz]).setRow (w.heap.size + 1 + 1 + 1) #[.int .i64 q.client, .int .i64 q.num, .int .i64 code, .slice Av no cv] →
      ApEnd q D (fun c o => (rs.map Rp.d).take (i) ++ (q.client, q.num, c, o) :: (rs.map Rp.d).drop (i)) w (.returned (.tuple #[.agg #[.slice Apz ps'.length cpz, .slice Arz nrz crz, .int .i64 ep', .slice Amz ms'.length cmz], .agg #[.int .i64 q.client, .int .i64 q.num, .int .i64 code, .slice Av no cv]])) w20 := fun w20 hw => by
    have mz : Mv (fun k => k = w.heap.size + 2 ∨ k = w.heap.size + 3) w18.drew w20 := by
      rw [hw]
      exact (Mv.setRow (fp := fun k => k = w.heap.size + 2 ∨ k = w.heap.size + 3) _ _ _ (.inl rfl)).trans (Mv.setRow (fp := fun k => k = w.heap.size + 2 ∨ k = w.heap.size + 3) _ _ _ (.inr rfl)) (fun _ _ c => c)
    have BXz := BX18.mv mz (fun k hk => by rcases hk with hk | hk <;> omega) (fun c => by rcases c with c | c <;> omega)
    refine ⟨_, .slice Av no cv, code, out, ps', R.take i ++ x :: R.drop i, ep', ms', rfl, ?_, own_mono (own_mv OT18 mz (fun g hg c => by have := (own_lt OT18 hg).1; rcases c with c | c <;> omega)) (by omega), hol, hD, ?_, S18.b.trans (mz.below S18.b.size (fun k hk => by rcases hk with hk | hk <;> omega))⟩
    · exact ⟨_, _, _, _, rfl, BXz.s.base (by omega), hp2, (by rw [hlz, ← hl17]; omega), hp3⟩
    · exact hrd
  obtain ⟨p1, p2, -⟩ := S18.z.put (cs := #[.slice Apz ps'.length cpz, .slice Arz nrz crz, .int .i64 ep', .slice Amz ms'.length cmz]) rfl (st_ones _ _ _ _ _ _ _ _ _ _)
  have hy := S18.y.of_block (w' := w18.drew.setRow (w.heap.size + 2) #[.slice Apz ps'.length cpz, .slice Arz nrz crz, .int .i64 ep', .slice Amz ms'.length cmz]) (setRow_other _ _ _ _ (by omega))
  obtain ⟨p3, p4, -⟩ := hy.put (cs := #[.int .i64 q.client, .int .i64 q.num, .int .i64 code, .slice Av no cv]) rfl (rp_ones4 _ _ _ _ _ _)
  have a19 : rowAt (w18.drew.setRow (w.heap.size + 2) #[.slice Apz ps'.length cpz, .slice Arz nrz crz, .int .i64 ep', .slice Amz ms'.length cmz]) (w.heap.size + 1 + 1 + 1 + 1) 0 4 = some #[.int .i64 q.client, .int .i64 q.num, .int .i64 code, .slice Av no cv] := by
    rw [rowAt_setRow_other _ _ _ _ _ _ (by omega)]; exact a18
  have p5 : rowAt ((w18.drew.setRow (w.heap.size + 2) #[.slice Apz ps'.length cpz, .slice Arz nrz crz, .int .i64 ep', .slice Amz ms'.length cmz]).setRow (w.heap.size + 3) #[.int .i64 q.client, .int .i64 q.num, .int .i64 code, .slice Av no cv]) (w.heap.size + 2) 0 4 = some #[.slice Apz ps'.length cpz, .slice Arz nrz crz, .int .i64 ep', .slice Amz ms'.length cmz] := by
    rw [rowAt_setRow_other _ _ _ _ _ _ (by omega)]; exact p2
  replace p1 : putRow w18.drew (w.heap.size + 1 + 1) 4 _ = some (w18.drew.setRow (w.heap.size + 1 + 1) _) := p1
  replace p3 : putRow (w18.drew.setRow (w.heap.size + 1 + 1) _) (w.heap.size + 1 + 1 + 1) 4 _ = some ((w18.drew.setRow (w.heap.size + 1 + 1) _).setRow (w.heap.size + 1 + 1 + 1) _) := p3
  replace a19 : rowAt (w18.drew.setRow (w.heap.size + 1 + 1) _) (w.heap.size + 1 + 1 + 1 + 1) 0 4 = _ := a19
  replace p4 : rowAt ((w18.drew.setRow (w.heap.size + 1 + 1) _).setRow (w.heap.size + 1 + 1 + 1) _) (w.heap.size + 1 + 1 + 1) 0 4 = _ := p4
  replace p5 : rowAt ((w18.drew.setRow (w.heap.size + 1 + 1) _).setRow (w.heap.size + 1 + 1 + 1) _) (w.heap.size + 1 + 1) 0 4 = _ := p5
  generalize ps'.length = npz at *
  generalize ms'.length = nmz at *
  have HF := Lib.hid hfin
  clear hfin hy S18 BX18 OT18 hrd own17 gr17 hat m17 S17 hlz hl17 hp1 hp2 hp3 hins hvb hBB S15 BX15 OTv15 OT15 hol hD hno hRd hRl hxa hxv hxd hxo hxt BX12 E15 HN H0 HL HD
  go_wp2_with fail
  go_region
  go_wp2_with fail
  refine bodyPost_ret (v := .tuple #[.agg #[.slice Apz npz cpz, .slice Arz nrz crz, .int .i64 ep', .slice Amz nmz cmz], .agg #[.int .i64 q.client, .int .i64 q.num, .int .i64 code, .slice Av no cv]]) (by rw [results_cc Tryd.results17]; simp [go_sem, p4, p5]) rfl ?_
  exact HF.out _ rfl
end Go.Proofs.YtfnfgnhbnffagaaDoor

/-
A request of a client that is known is executed.
-/
namespace Go.Proofs.YtfnfgnhbnffagaaDoor
open Go.RowKit
set_option linter.unusedVariables false
set_option linter.unusedSimpArgs false
set_option maxRecDepth 100000
theorem st_rep_at {w : World} {g o : Nat} {cur : Array Value} (hg : w.heap[g]? = some (.cells cur 49 (0, 0))) (x : Rp) (hfit : o + 4 ≤ cur.size) : (stVar 49 ⟨g, o, none⟩ (.agg x.arr)).run Tryd.prog w = .ok () (w.setRow g (spl cur o x.cells)) := by
  have h1 := store_at (P := Tryd.prog) hg x.cells hfit (cells_onesR x)
  obtain ⟨i0, hi, hz0, hz1, hz2⟩ := info_parts infoMR
  unfold stVar storeVar
  have e : (Value.agg x.arr).cells.toList = x.cells := rfl
  have e2 : (Value.agg x.arr).cells.size = 4 := rfl
  rw [e, e2]
  simp [sizeOf, typeInfo, hi, hz1, h1]
theorem own_setRep {w : World} {B g cap n i : Nat} {cur : Array Value} {R : List Rp} (x : Rp) (hB : B ≤ g) (hg : w.heap[g]? = some (.cells cur 49 (0, 0))) (hnc : n ≤ cap) (hm : cap ≤ maxLen) (hs : cur.size = cap * 4) (hx : cur.toList.take (n * 4) = flatC Rp.cells R) (hl : R.length = n) (hi : i < n) :
    (w.setRow g (spl cur (i * 4) x.cells)).ownsRow B 49 4 (.slice (some ⟨g, 0, none⟩) n cap) n (flatC Rp.cells (R.set i x)) := by
  have hlen : ∀ m ∈ R, (Rp.cells m).length = 4 := fun _ _ => rfl
  have hxl : x.cells.length = 4 := rfl
  refine own_of_block hB (setRow_heap w g cur _ 49 (0, 0) hg) hnc hm (by rw [spl_size (by rw [hxl, hs]; omega), hs]) ?_
  rw [spl_take_far (by rw [hxl, hs]; omega) (by rw [hxl]; omega), hx, hxl, show i * 4 + 4 = (i + 1) * 4 by omega, flatC_drop hlen (by omega), List.set_eq_take_append_cons_drop, if_pos (by omega), flatC_append, flatC_cons]
  rw [show cur.toList.take (i * 4) = flatC Rp.cells (R.take i) by rw [← flatC_take hlen (by omega), ← hx, List.take_take, Nat.min_eq_left (by omega)], List.append_assoc]
set_option maxHeartbeats 4000000 in
theorem apply_known (v : Value) (ps : List Pr) (rs : List Rp) (ep : Int) (ms : List Mb) (q : Rq) (w : World) (h : StS w v ps rs ep ms) (hq : q.ok) (hg : rqGood q = true) (hl : lastB rs q.client = true) (hnum : (rs.getD (lastI rs q.client) default).num < q.num) (hm : ms.length ≤ 100000) (hp : ps.length ≤ 100000) (hr : rs.length ≤ 99999)
    (D : Int → List ByteArray → List Pr → Int → List Mb → Prop) (hdo : ∀ (B O : Nat) (vp vr vm : Value) (rs' : List Rp) (w1 : World), BoxS B O w1 vp vr vm ps rs' ep ms → B ≤ w1.heap.size → Below w.heap.size w w1 → Calls Tryd.prog 26 #[.pointer (some ⟨O, 0, none⟩), .agg q.op.arr] w1 (DoesEnd B O vp vr vm ps rs' ep ms D w1))
    (hout : ∀ code out ps' ep' ms', D code out ps' ep' ms' → (∀ s ∈ out, s.size ≤ 140737488355328) ∧ ps'.length ≤ 140737488355328 ∧ ms'.length ≤ 140737488355328) :
    Calls Tryd.prog 17 #[v, .agg q.arr] w (ApEnd q D (fun c o => (rs.map Rp.d).set (lastI rs q.client) (q.client, q.num, c, o)) w) := by
  have H0 := Lib.hid h
  obtain ⟨Ap, cp, Ar, cr, Am, cm, rfl, h1, h2, h3, h4, h5, h6, h7⟩ := h.ex
  obtain ⟨np, hnp⟩ : ∃ n, ps.length = n := ⟨_, rfl⟩
  obtain ⟨nr, hnr⟩ : ∃ n, rs.length = n := ⟨_, rfl⟩
  obtain ⟨nm, hnm⟩ : ∃ n, ms.length = n := ⟨_, rfl⟩
  have hil := lastB_lt hl
  rw [hnr] at h3 hil
  have HN := Lib.hid (And.intro hnp (And.intro hnr (And.intro hnm (And.intro hm (And.intro hp hr)))))
  rw [hnp, hnr, hnm] at H0 ⊢
  clear h h1 h2 h4 h5 h6 h7 hnp hnr hnm hm hp hr
  have q0 := q.at0
  have q1 := q.at1
  have qs := Rq.sz hq
  have qo := Rq.ones q
  have qc := Rq.cutAll (Rq.size hq)
  have HL := Lib.hid hl
  have HD := Lib.hid hdo
  have HQ := Lib.hid hq
  generalize hI : lastI rs q.client = i at hil hnum
  obtain ⟨b, off, rfl, hbb, hel⟩ := h3.mem (by omega)
  have hr0 := hel i hil
  have hsm := h3.small
  generalize rs.getD i default = old at hr0 hnum
  have cn := cell_of_rowAt hr0 1 _ old.at1
  generalize old.num = onum at cn hnum
  have hi1 : (i : Int) < nr := by omega
  have hi0 : ¬ (i : Int) < 0 := by omega
  have hle : decide (q.num ≤ onum) = false := decide_eq_false (by omega)
  have hnr0 : (nr : Int) ≤ 140737488355328 := by omega
  have hnum' : ¬ q.num ≤ onum := by omega
  clear hr0 hel hsm old
  have S5 := Apf.start w #[.slice Ap np cp, .slice (some ⟨b, off, none⟩) nr cr, .int .i64 ep, .slice Am nm cm] q.arr #[.int .i64 q.client, .int .i64 q.num, .int .i64 0, .slice none 0 0] #[.slice none 0 0, .slice none 0 0, .int .i64 0, .slice none 0 0] #[.int .i64 0, .int .i64 0, .int .i64 0, .slice none 0 0] rfl rfl
  have HI := Lib.hid hI
  clear hdo hl hI
  go_enter Tryd.func17, Tryd.ntmps17
  go_wp2_with fail
  refine (qGood_any HQ.out _).mono ?_
  rw [hg]
  rintro e w6 ⟨rfl, hb6⟩
  have S6 := S5.below hb6
  have k0 : rowAt w6 w.heap.size 0 4 = some #[.slice Ap np cp, .slice (some ⟨b, off, none⟩) nr cr, .int .i64 ep, .slice Am nm cm] := by unfold rowAt; rw [S6.s]; exact cut_all _ _ rfl
  have k1 : w6.cell? ⟨w.heap.size + 1, 0, none⟩ = some (.int .i64 q.client) := by rw [cell_of_row _ _ _ _ _ _ S6.q]; exact q0
  clear S5 hb6
  go_wp2_with fail
  refine (last_any _ _ (some ⟨b, off, none⟩) nr cr ep rs q.client _ (h3.below S6.b)).mono ?_
  rw [HL.out, HI.out]
  rintro e w7 ⟨rfl, hb7⟩
  have S7 := S6.below hb7
  clear S6 hb7 k0 k1
  have k0 : rowAt w7 w.heap.size 0 4 = some #[.slice Ap np cp, .slice (some ⟨b, off, none⟩) nr cr, .int .i64 ep, .slice Am nm cm] := by unfold rowAt; rw [S7.s]; exact cut_all _ _ rfl
  have k1 : w7.cell? ⟨w.heap.size, 1, none⟩ = some (.slice (some ⟨b, off, none⟩) nr cr) := by rw [cell_of_row _ _ _ _ _ _ S7.s]; rfl
  have k2 : w7.cell? ⟨w.heap.size + 1, 1, none⟩ = some (.int .i64 q.num) := by rw [cell_of_row _ _ _ _ _ _ S7.q]; exact q1
  have k3 := (S7.b.cell (p := ⟨b, off + i * 4 + 1, none⟩) hbb).trans cn
  go_wp2_with fail
  go_quiet (fail)
  have S8 := S7.below (below_drewN (Below.refl w7.heap.size w7) nq)
  generalize w7.drewN nq = w8 at S8 ⊢
  clear S7 k0 k1 k2 k3
  have k0 : rowAt w8 w.heap.size 0 4 = some #[.slice Ap np cp, .slice (some ⟨b, off, none⟩) nr cr, .int .i64 ep, .slice Am nm cm] := by unfold rowAt; rw [S8.s]; exact cut_all _ _ rfl
  go_wp2_with fail
  refine (copied_any _ ps rs ep ms _ (H0.out.below S8.b) HN.out.2.2.2.1 HN.out.2.2.2.2.1 (by have := HN.out.2.2.2.2.2; omega)).mono ?_
  rintro e w9 ⟨vp, vr, vm, R, O', rfl, OW9, hRd, hb9⟩
  have S9 := S8.below hb9
  obtain ⟨Aq, cq, hvp, -, -⟩ := own_shape OW9.p
  obtain ⟨Ax, cx, hvr, -, -⟩ := own_shape OW9.r
  obtain ⟨Ac, cc, hvm, -, -⟩ := own_shape OW9.m
  have hRl : R.length = nr := by
    have := congrArg List.length hRd
    rw [List.length_map, List.length_map, HN.out.2.1] at this
    exact this
  rw [HN.out.1] at hvp
  rw [hRl] at hvr
  rw [HN.out.2.2.1] at hvm
  subst hvp hvr hvm
  have HVR := Lib.hid (show ∀ k, (Value.slice Ax nr cx).ownBlock = some k → k < w9.heap.size from fun k hk => (own_lt OW9.r hk).2)
  clear k0
  have kl := S9.lt
  have k2 : rowAt w9 (w.heap.size + 1) 2 40 = some q.op.arr := by unfold rowAt; rw [S9.q]; exact Rq.cutOp HQ.out
  have b10 : Below w9.heap.size w9 (w9.alloc (.cells #[.slice Aq np cq, .slice Ax nr cx, .int .i64 ep, .slice Ac nm cc] 28)) := (Below.refl _ _).alloc (Nat.le_refl _) _
  have BX : BoxS w8.heap.size w9.heap.size (w9.alloc (.cells #[.slice Aq np cq, .slice Ax nr cx, .int .i64 ep, .slice Ac nm cc] 28)) (.slice Aq np cq) (.slice Ax nr cx) (.slice Ac nm cc) ps R ep ms :=
    ⟨heap_alloc_new w9 _, (OW9.box (.inr (Nat.le_refl _))).below b10⟩
  have S10 := S9.below b10
  have hdo := HD.out _ _ _ _ _ R _ BX (Nat.le_trans hb9.size b10.size) S10.b
  have l9 : w.heap.size + 4 < w8.heap.size := S8.lt
  have l10 : w8.heap.size ≤ w9.heap.size := hb9.size
  have E9 := Lib.hid (And.intro BX (And.intro S10 (And.intro hRd hRl)))
  clear S8 S9 OW9 hb9 BX S10 hRd hRl b10
  have kl' : w.heap.size + 1 < w9.heap.size := by omega
  go_wp2_with fail
  refine hdo.mono ?_
  rintro e w11 ⟨code, vals, out, vp', vm', ps', ep', ms', rfl, BX11, OT11, hol, mv11, hD⟩
  obtain ⟨BX, S10, hRd, hRl⟩ := E9.out
  have S11 := S10.mv mv11 (fun k hk => by rcases hk with rfl | hk; omega; have := (own_lt BX.s.p hk).1; omega)
  obtain ⟨Av, cv, rfl⟩ := ot_shape OT11 rfl
  obtain ⟨no, hno⟩ : ∃ n, out.length = n := ⟨_, rfl⟩
  rw [hno] at OT11 ⊢
  have f2 : w11.frozen? ⟨w.heap.size + 1 + 1 + 1 + 1, 2, none⟩ = false := by simp [World.frozen?, S11.a]
  have f3 : w11.frozen? ⟨w.heap.size + 1 + 1 + 1 + 1, 3, none⟩ = false := by simp [World.frozen?, S11.a]
  have c2 : w11.cell? ⟨w.heap.size + 1 + 1 + 1 + 1, 2, none⟩ = some (.int .i64 0) := by rw [cell_of_row _ _ _ _ _ _ S11.a]; rfl
  have c3 : w11.cell? ⟨w.heap.size + 1 + 1 + 1 + 1, 3, none⟩ = some (.slice none 0 0) := by rw [cell_of_row _ _ _ _ _ _ S11.a]; rfl
  obtain ⟨w12, hw12⟩ : ∃ w12, (w11.setCell ⟨w.heap.size + 1 + 1 + 1 + 1, 2, none⟩ (.int .i64 code)).setCell ⟨w.heap.size + 1 + 1 + 1 + 1, 3, none⟩ (.slice Av no cv) = w12 := ⟨_, rfl⟩
  have S12 : Apf w #[.slice Ap np cp, .slice (some ⟨b, off, none⟩) nr cr, .int .i64 ep, .slice Am nm cm] q.arr #[.int .i64 q.client, .int .i64 q.num, .int .i64 code, .slice Av no cv] w12 := by
    rw [← hw12]; exact (S11.setA 2 (.int .i64 code)).setA 3 (.slice Av no cv)
  have m12 : Mv (· = w.heap.size + 4) w11 w12 := by
    rw [← hw12]; exact (Mv.setCell (fp := (· = w.heap.size + 4)) _ _ _ rfl).trans (Mv.setCell (fp := (· = w.heap.size + 4)) _ _ _ rfl) (fun _ _ c => c)
  have BX12 := BX11.mv m12 (fun k hk => by omega) (fun c => by omega)
  have h11 : w9.heap.size + 1 ≤ w11.heap.size := by have := mv11.size; simpa using this
  have OT12 : OT w12 (w9.heap.size + 1) (.slice Av no cv) out := own_mv (own_mono (by unfold OT at OT11; exact OT11) (by simp)) m12 (fun g hg c => by have := (own_lt OT11 hg).1; simp at this; omega)
  obtain ⟨Av', cv', hve, T12, K12⟩ := OT12.ts (by omega)
  rw [hno] at hve T12 K12
  cases hve
  have l12 : w11.heap.size ≤ w12.heap.size := m12.size
  have r12 : rowAt w12 (w.heap.size + 1 + 1 + 1 + 1) 0 4 = some #[.int .i64 q.client, .int .i64 q.num, .int .i64 code, .slice Av no cv] := by unfold rowAt; rw [S12.a]; exact cut_all _ _ rfl
  have b13 : Below w12.heap.size w12 (w12.alloc (.cells #[.int .i64 q.client, .int .i64 q.num, .int .i64 code, .slice Av no cv] 49)) := (Below.refl _ _).alloc (Nat.le_refl _) _
  have c123 : w12.cell? ⟨w.heap.size + 1 + 1 + 1 + 1, 3, none⟩ = some (.slice Av no cv) := by rw [cell_of_row _ _ _ _ _ _ S12.a]; rfl
  have l121 : w.heap.size + 1 + 1 + 1 + 1 < w12.heap.size := S12.lt
  have T13 := T12.below b13
  have E12 := Lib.hid (And.intro S12 (And.intro BX12 (And.intro OT12 (And.intro hol (And.intro hD (And.intro hno (And.intro b13 (And.intro hRd (And.intro hRl (And.intro h11 l12))))))))))
  clear S12 BX12 OT12 hol hD hno b13 S11 BX11 OT11 mv11 m12 BX S10 hRd hRl E9 h11 l12 T12 hdo
  go_wp2_with fail
  clear hw12 f2 f3 c2 c3
  refine (cloneS_any Av no cv out _ T13 K12).mono ?_
  rintro e w14 ⟨v14, rfl, OT14, hb14⟩
  obtain ⟨S12, BX12, OT12, hol, hD, hno, b13, hRd, hRl, h11, l12⟩ := E12.out
  obtain ⟨A14, c14, hv14, -, -⟩ := OT14.ts (by omega)
  rw [hno] at hv14
  subst hv14
  have b14 := b13.trans (hb14.mono b13.size)
  have S14 := S12.below b14
  have BX14 := BX12.below b14
  have OTv14 := OT12.below b14
  have hg14 := (hb14.block _ (by simp)).trans (heap_alloc_new w12 (.cells #[.int .i64 q.client, .int .i64 q.num, .int .i64 code, .slice Av no cv] 49))
  have f143 : w14.frozen? ⟨w12.heap.size, 3, none⟩ = false := by simp [World.frozen?, hg14]
  have c143 : w14.cell? ⟨w12.heap.size, 3, none⟩ = some (.slice Av no cv) := by rw [cell_of_row _ _ _ _ _ _ hg14]; rfl
  obtain ⟨w15, hw15⟩ : ∃ w15, w14.setCell ⟨w12.heap.size, 3, none⟩ (.slice A14 no c14) = w15 := ⟨_, rfl⟩
  have m15 : Mv (· = w12.heap.size) w14 w15 := by rw [← hw15]; exact Mv.setCell _ _ _ rfl
  have z15 : w15.heap.size = w14.heap.size := by rw [← hw15]; simp
  have lO := BX12.lt
  have S15 := S14.mv m15 (fun k hk => by omega)
  have BX15 : BoxS w8.heap.size w9.heap.size w15 vp' (.slice Ax nr cx) vm' ps' R ep' ms' :=
    ⟨(m15.block _ BX14.lt (fun c => by omega)).trans BX14.o, BX14.s.mv m15 (fun g hg c => by have := (own_lt BX12.s.p hg).2; omega) (fun g hg c => by have := (own_lt BX12.s.r hg).2; omega) (fun g hg c => by have := (own_lt BX12.s.m hg).2; omega) (fun x hx g hg c => by have := (own_lt (BX12.s.t x hx) hg).2; omega)⟩
  have OTv15 : OT w15 (w9.heap.size + 1) (.slice Av no cv) out := own_mv OTv14 m15 (fun g hg c => by have := (own_lt OT12 hg).2; omega)
  have OT15 : OT w15 (w12.heap.size + 1) (.slice A14 no c14) out := own_mv (by unfold OT at OT14; simpa using OT14) m15 (fun g hg c => by have := (own_lt OT14 hg).1; simp at this; omega)
  have r15 : rowAt w15 w12.heap.size 0 4 = some #[.int .i64 q.client, .int .i64 q.num, .int .i64 code, .slice A14 no c14] := by
    unfold rowAt
    rw [← hw15, heap_setCell_same _ _ _ _ _ _ hg14]
    exact cut_all _ _ rfl
  have c151 : w15.cell? ⟨w9.heap.size, 1, none⟩ = some (.slice Ax nr cx) := by rw [cell_of_row _ _ _ _ _ _ BX15.o]; rfl
  have hszs := (hout _ _ _ _ _ hD).1
  obtain ⟨x, hx⟩ : ∃ x, x = Rp.mk q.client q.num code A14 c14 out := ⟨_, rfl⟩
  have hxa : x.arr = #[.int .i64 q.client, .int .i64 q.num, .int .i64 code, .slice A14 no c14] := by rw [hx, ← hno]; rfl
  have hxv : x.v = .slice A14 no c14 := by rw [hx, ← hno]; rfl
  have hxd : x.d = (q.client, q.num, code, out) := by rw [hx]; rfl
  have hxo : x.ok := by rw [hx]; exact ⟨HQ.out.c, HQ.out.n, by show out.length ≤ _; omega, hszs⟩
  have hxt : x.vals = out := by rw [hx]
  have hbs : ∀ W : World, (bsRow 23 1 #[(0, .agg #[.int .i64 q.client, .int .i64 q.num, .int .i64 code, .slice A14 no c14])]).run Tryd.prog W = .ok (.slice (some ⟨W.heap.size, 0, none⟩) 1 1) (W.alloc (.cells #[.int .i64 q.client, .int .i64 q.num, .int .i64 code, .slice A14 no c14] 49)) := fun W => by
    have := bs_M1R hxo W
    rw [hxa] at this
    exact this
  have lS := S12.lt
  have E15 := Lib.hid (And.intro S15 (And.intro BX15 (And.intro OTv15 (And.intro OT15 (And.intro hol (And.intro hD (And.intro hno (And.intro hRd (And.intro hRl (And.intro hxa (And.intro hxv (And.intro hxd (And.intro hxo (And.intro hxt (And.intro lO (And.intro lS (And.intro BX12 b14.size)))))))))))))))))
  rcases BX15.s.r.2 with ⟨h0, hz0⟩ | ⟨gx, capx, cur, hvx, hBx, hgx, hncx, hcmx, hcsx, hxx⟩
  · omega
  obtain ⟨rfl, rfl⟩ : Ax = some ⟨gx, 0, none⟩ ∧ cx = capx := by injection hvx with g1 g2 g3; exact ⟨g1, g3⟩
  clear hvx
  rw [hRl] at hncx hxx
  have hst := st_rep_at hgx x (o := i * 4) (by rw [hcsx]; omega)
  rw [hxa] at hst
  have own17 : (w15.setRow gx (spl cur (i * 4) x.cells)).ownsRow w8.heap.size 49 4 (.slice (some ⟨gx, 0, none⟩) nr cx) (R.set i x).length (flatC Rp.cells (R.set i x)) := by
    rw [List.length_set, hRl]; exact own_setRep x hBx hgx hncx hcmx hcsx hxx hRl hil
  have m17 : Mv (fun k => (Value.slice (some ⟨gx, 0, none⟩) nr cx).ownBlock = some k) w15 (w15.setRow gx (spl cur (i * 4) x.cells)) := Mv.setRow _ _ _ rfl
  have hfx : w15.frozen? ⟨gx, i * 4, none⟩ = false := by simp [World.frozen?, hgx]
  generalize hw17 : w15.setRow gx (spl cur (i * 4) x.cells) = w17 at hst own17 m17
  have E16 := Lib.hid (And.intro own17 m17)
  clear hBx hgx hncx hcmx hcsx hxx own17 m17 hw17
  clear S15 BX15 OTv15 OT15 hol hD hno hRd hRl hxa hxv hxd hxo hxt hszs hg14 S14 BX14 OTv14 OT14 hb14 b14 b13 S12 BX12 OT12 E12 m15 T13 K12 hx
  go_wp2_with fail
  obtain ⟨own17, m17⟩ := E16.out
  obtain ⟨S15, BX15, OTv15, OT15, hol, hD, hno, hRd, hRl, hxa, hxv, hxd, hxo, hxt, lO, lS, BX12, l14⟩ := E15.out
  have BX18 : BoxS w8.heap.size w9.heap.size w17 vp' (.slice (some ⟨gx, 0, none⟩) nr cx) vm' ps' (R.set i x) ep' ms' :=
    ⟨(m17.block _ BX15.lt (fun c => (BX15.s.ar _ c).1 rfl)).trans BX15.o, BX15.s.newR hxo BX15.lt (by rw [hxv, hxt]; exact own_mono OT15 (by omega)) (fun k hk => by
      rw [hxv] at hk
      have h1 := (own_lt OT15 hk).1
      exact ⟨by omega, fun c => by have := (own_lt BX12.s.p c).2; omega, fun c => by have := (own_lt BX12.s.r c).2; omega⟩) (fun y hy => List.mem_or_eq_of_mem_set hy) own17 m17 (.inl rfl)⟩
  have S17 := S15.mv m17 (fun k hk => by have := (own_lt BX12.s.r hk).1; omega)
  have S18 := S17
  obtain ⟨Apz, cpz, hvpz, -, -⟩ := own_shape BX18.s.p
  obtain ⟨Amz, cmz, hvmz, -, -⟩ := own_shape BX18.s.m
  subst hvpz hvmz
  have hrd : (R.set i x).map Rp.d = (rs.map Rp.d).set i (q.client, q.num, code, out) := by
    rw [List.map_set, hRd, hxd]
  have OT18 : OT w17 (w9.heap.size + 1) (.slice Av no cv) out :=
    own_mv OTv15 m17 (fun g hg c => by have h1 := (own_lt OTv15 hg).1; have h2 := HVR.out g c; omega)
  obtain ⟨hp1, hp2, hp3⟩ := hout _ _ _ _ _ hD
  have hlz : (R.set i x).length = nr := by rw [List.length_set, hRl]
  have o18 := BX18.row
  have a18 : rowAt w17 (w.heap.size + 1 + 1 + 1 + 1) 0 4 = some #[.int .i64 q.client, .int .i64 q.num, .int .i64 code, .slice Av no cv] := by unfold rowAt; rw [S18.a]; exact cut_all _ _ rfl
  replace S18 := S18.below ((Below.refl w17.heap.size w17).drew)
  replace BX18 := BX18.below ((Below.refl w17.heap.size w17).drew)
  replace OT18 := OT18.below ((Below.refl w17.heap.size w17).drew)
  have hfin : ∀ w20, w20 = (w17.drew.setRow (w.heap.size + 1 + 1) #[.slice Apz ps'.length cpz, .slice (some ⟨gx, 0, none⟩) nr cx, .int .i64 ep', .slice Amz ms'.length cmz]).setRow (w.heap.size + 1 + 1 + 1) #[.int .i64 q.client, .int .i64 q.num, .int .i64 code, .slice Av no cv] →
      ApEnd q D (fun c o => (rs.map Rp.d).set i (q.client, q.num, c, o)) w (.returned (.tuple #[.agg #[.slice Apz ps'.length cpz, .slice (some ⟨gx, 0, none⟩) nr cx, .int .i64 ep', .slice Amz ms'.length cmz], .agg #[.int .i64 q.client, .int .i64 q.num, .int .i64 code, .slice Av no cv]])) w20 := fun w20 hw => by
    have mz : Mv (fun k => k = w.heap.size + 2 ∨ k = w.heap.size + 3) w17.drew w20 := by
      rw [hw]
      exact (Mv.setRow (fp := fun k => k = w.heap.size + 2 ∨ k = w.heap.size + 3) _ _ _ (.inl rfl)).trans (Mv.setRow (fp := fun k => k = w.heap.size + 2 ∨ k = w.heap.size + 3) _ _ _ (.inr rfl)) (fun _ _ c => c)
    have BXz := BX18.mv mz (fun k hk => by rcases hk with hk | hk <;> omega) (fun c => by rcases c with c | c <;> omega)
    refine ⟨_, .slice Av no cv, code, out, ps', R.set i x, ep', ms', rfl, ?_, own_mono (own_mv OT18 mz (fun g hg c => by have := (own_lt OT18 hg).1; rcases c with c | c <;> omega)) (by omega), hol, hD, ?_, S18.b.trans (mz.below S18.b.size (fun k hk => by rcases hk with hk | hk <;> omega))⟩
    · exact ⟨_, _, _, _, rfl, BXz.s.base (by omega), hp2, (by rw [hlz]; omega), hp3⟩
    · exact hrd
  obtain ⟨p1, p2, -⟩ := S18.z.put (cs := #[.slice Apz ps'.length cpz, .slice (some ⟨gx, 0, none⟩) nr cx, .int .i64 ep', .slice Amz ms'.length cmz]) rfl (st_ones _ _ _ _ _ _ _ _ _ _)
  have hy := S18.y.of_block (w' := w17.drew.setRow (w.heap.size + 2) #[.slice Apz ps'.length cpz, .slice (some ⟨gx, 0, none⟩) nr cx, .int .i64 ep', .slice Amz ms'.length cmz]) (setRow_other _ _ _ _ (by omega))
  obtain ⟨p3, p4, -⟩ := hy.put (cs := #[.int .i64 q.client, .int .i64 q.num, .int .i64 code, .slice Av no cv]) rfl (rp_ones4 _ _ _ _ _ _)
  have a19 : rowAt (w17.drew.setRow (w.heap.size + 2) #[.slice Apz ps'.length cpz, .slice (some ⟨gx, 0, none⟩) nr cx, .int .i64 ep', .slice Amz ms'.length cmz]) (w.heap.size + 1 + 1 + 1 + 1) 0 4 = some #[.int .i64 q.client, .int .i64 q.num, .int .i64 code, .slice Av no cv] := by
    rw [rowAt_setRow_other _ _ _ _ _ _ (by omega)]; exact a18
  have p5 : rowAt ((w17.drew.setRow (w.heap.size + 2) #[.slice Apz ps'.length cpz, .slice (some ⟨gx, 0, none⟩) nr cx, .int .i64 ep', .slice Amz ms'.length cmz]).setRow (w.heap.size + 3) #[.int .i64 q.client, .int .i64 q.num, .int .i64 code, .slice Av no cv]) (w.heap.size + 2) 0 4 = some #[.slice Apz ps'.length cpz, .slice (some ⟨gx, 0, none⟩) nr cx, .int .i64 ep', .slice Amz ms'.length cmz] := by
    rw [rowAt_setRow_other _ _ _ _ _ _ (by omega)]; exact p2
  replace p1 : putRow w17.drew (w.heap.size + 1 + 1) 4 _ = some (w17.drew.setRow (w.heap.size + 1 + 1) _) := p1
  replace p3 : putRow (w17.drew.setRow (w.heap.size + 1 + 1) _) (w.heap.size + 1 + 1 + 1) 4 _ = some ((w17.drew.setRow (w.heap.size + 1 + 1) _).setRow (w.heap.size + 1 + 1 + 1) _) := p3
  replace a19 : rowAt (w17.drew.setRow (w.heap.size + 1 + 1) _) (w.heap.size + 1 + 1 + 1 + 1) 0 4 = _ := a19
  replace p4 : rowAt ((w17.drew.setRow (w.heap.size + 1 + 1) _).setRow (w.heap.size + 1 + 1 + 1) _) (w.heap.size + 1 + 1 + 1) 0 4 = _ := p4
  replace p5 : rowAt ((w17.drew.setRow (w.heap.size + 1 + 1) _).setRow (w.heap.size + 1 + 1 + 1) _) (w.heap.size + 1 + 1) 0 4 = _ := p5
  generalize ps'.length = npz at *
  generalize ms'.length = nmz at *
  have HF := Lib.hid hfin
  clear hfin hy S18 BX18 OT18 hrd own17 m17 S17 hlz hp1 hp2 hp3 E16 S15 BX15 OTv15 OT15 hol hD hno hRd hRl hxa hxv hxd hxo hxt BX12 E15 HN H0 HL HD
  go_wp2_with fail
  go_region
  go_wp2_with fail
  refine bodyPost_ret (v := .tuple #[.agg #[.slice Apz npz cpz, .slice (some ⟨gx, 0, none⟩) nr cx, .int .i64 ep', .slice Amz nmz cmz], .agg #[.int .i64 q.client, .int .i64 q.num, .int .i64 code, .slice Av no cv]]) (by rw [results_cc Tryd.results17]; simp [go_sem, p4, p5]) rfl ?_
  exact HF.out _ rfl
end Go.Proofs.YtfnfgnhbnffagaaDoor

/-
A request that can't be, that is old, that comes again.
-/
namespace Go.Proofs.YtfnfgnhbnffagaaDoor
open Go.RowKit
set_option linter.unusedVariables false
set_option linter.unusedSimpArgs false
set_option maxRecDepth 100000
/-- the two results are stored -/
theorem ret2 {W w9 : World} {sa qa aa out : Array Value} (S9 : Apf W sa qa aa w9) (ho : out.size = 4) (ho1 : oneCells out = true) (ha : aa.size = 4) (ha1 : oneCells aa = true) :
    putRow w9 (W.heap.size + 1 + 1) 4 out = some (w9.setRow (W.heap.size + 1 + 1) out) ∧ putRow (w9.setRow (W.heap.size + 1 + 1) out) (W.heap.size + 1 + 1 + 1) 4 aa = some ((w9.setRow (W.heap.size + 1 + 1) out).setRow (W.heap.size + 1 + 1 + 1) aa) ∧
    Apf W sa qa aa (w9.setRow (W.heap.size + 1 + 1) out) ∧ Apf W sa qa aa ((w9.setRow (W.heap.size + 1 + 1) out).setRow (W.heap.size + 1 + 1 + 1) aa) ∧
    rowAt ((w9.setRow (W.heap.size + 1 + 1) out).setRow (W.heap.size + 1 + 1 + 1) aa) (W.heap.size + 1 + 1) 0 4 = some out ∧ rowAt ((w9.setRow (W.heap.size + 1 + 1) out).setRow (W.heap.size + 1 + 1 + 1) aa) (W.heap.size + 1 + 1 + 1) 0 4 = some aa ∧
    Mv (fun k => k = W.heap.size + 2 ∨ k = W.heap.size + 3) w9 ((w9.setRow (W.heap.size + 1 + 1) out).setRow (W.heap.size + 1 + 1 + 1) aa) := by
  obtain ⟨p1, p2, z1⟩ := S9.z.put ho ho1
  have m1 : Mv (fun k => k = W.heap.size + 2 ∨ k = W.heap.size + 3) w9 (w9.setRow (W.heap.size + 1 + 1) out) := Mv.setRow _ _ _ (.inl rfl)
  have hy := S9.y.of_block (w' := w9.setRow (W.heap.size + 2) out) (setRow_other _ _ _ _ (by omega))
  obtain ⟨p3, p4, y1⟩ := hy.put ha ha1
  have m2 : Mv (fun k => k = W.heap.size + 2 ∨ k = W.heap.size + 3) (w9.setRow (W.heap.size + 1 + 1) out) ((w9.setRow (W.heap.size + 1 + 1) out).setRow (W.heap.size + 1 + 1 + 1) aa) := Mv.setRow _ _ _ (.inr rfl)
  have hs : ∀ (w' : World), Mv (fun k => k = W.heap.size + 2 ∨ k = W.heap.size + 3) w9 w' → Bx w' (W.heap.size + 2) 4 28 → Bx w' (W.heap.size + 3) 4 49 → Apf W sa qa aa w' := fun w' m hz hy => by
    have hl := S9.lt
    have hn : ∀ k, k ≤ W.heap.size + 4 → k ≠ W.heap.size + 2 → k ≠ W.heap.size + 3 → w'.heap[k]? = w9.heap[k]? := fun k hk h2 h3 => m.block k (by omega) (fun c => by rcases c with c | c <;> omega)
    exact ⟨S9.b.trans (m.below S9.b.size (fun i hi => by rcases hi with hi | hi <;> omega)), (hn _ (by omega) (by omega) (by omega)).trans S9.s, (hn _ (by omega) (by omega) (by omega)).trans S9.q, hz, hy, (hn _ (by omega) (by omega) (by omega)).trans S9.a⟩
  have m12 := m1.trans m2 (fun _ _ c => c)
  refine ⟨p1, p3, hs _ m1 z1 hy, hs _ m12 (z1.of_block (setRow_other _ _ _ _ (by omega))) y1, ?_, p4, m12⟩
  rw [rowAt_setRow_other _ _ _ _ _ _ (by omega)]; exact p2
/-- what Apply answers where nothing is executed -/
def ApStay (ps : List Pr) (rs : List Rp) (ep : Int) (ms : List Mb) (c n code : Int) (out : List ByteArray) (w : World) (e : Ending) (w' : World) : Prop :=
  ∃ v' vals rs', e = .returned (.tuple #[v', .agg #[.int .i64 c, .int .i64 n, .int .i64 code, vals]]) ∧ OwnV w.heap.size w' v' ps rs' ep ms ∧ rs'.map Rp.d = rs.map Rp.d ∧ OT w' w.heap.size vals out ∧ Below w.heap.size w w'
set_option maxHeartbeats 4000000 in
theorem sapply_bad (v : Value) (ps : List Pr) (rs : List Rp) (ep : Int) (ms : List Mb) (q : Rq) (w : World) (h : StS w v ps rs ep ms) (hq : q.ok) (hg : rqGood q = false) (hm : ms.length ≤ 100000) (hp : ps.length ≤ 100000) (hr : rs.length ≤ 99999) :
    Calls Tryd.prog 17 #[v, .agg q.arr] w (ApStay ps rs ep ms q.client q.num 1 [] w) := by
  have H0 := Lib.hid h
  obtain ⟨Ap, cp, Ar, cr, Am, cm, rfl, h1, h2, h3, h4, h5, h6, h7⟩ := h.ex
  obtain ⟨np, hnp⟩ : ∃ n, ps.length = n := ⟨_, rfl⟩
  obtain ⟨nr, hnr⟩ : ∃ n, rs.length = n := ⟨_, rfl⟩
  obtain ⟨nm, hnm⟩ : ∃ n, ms.length = n := ⟨_, rfl⟩
  have HN := Lib.hid (And.intro hnp (And.intro hnr (And.intro hnm (And.intro hm (And.intro hp hr)))))
  rw [hnp, hnr, hnm] at H0 ⊢
  clear h h1 h2 h3 h4 h5 h6 h7 hnp hnr hnm hm hp hr
  have S5 := Apf.start w #[.slice Ap np cp, .slice Ar nr cr, .int .i64 ep, .slice Am nm cm] q.arr #[.int .i64 q.client, .int .i64 q.num, .int .i64 0, .slice none 0 0] #[.slice none 0 0, .slice none 0 0, .int .i64 0, .slice none 0 0] #[.int .i64 0, .int .i64 0, .int .i64 0, .slice none 0 0] rfl rfl
  have q0 := q.at0
  have q1 := q.at1
  have qs := Rq.sz hq
  have qo := Rq.ones q
  have qc := Rq.cutAll (Rq.size hq)
  have HQ := Lib.hid hq
  go_enter Tryd.func17, Tryd.ntmps17
  go_wp2_with fail
  refine (qGood_any HQ.out _).mono ?_
  rw [hg]
  rintro e w6 ⟨rfl, hb6⟩
  have S6 := S5.below hb6
  have c2 : w6.cell? ⟨w.heap.size + 1 + 1 + 1 + 1, 2, none⟩ = some (.int .i64 0) := by rw [cell_of_row _ _ _ _ _ _ S6.a]; rfl
  have f2 : w6.frozen? ⟨w.heap.size + 1 + 1 + 1 + 1, 2, none⟩ = false := by simp [World.frozen?, S6.a]
  have S7 := S6.setA 2 (.int .i64 1)
  clear S5 hb6
  go_wp2_with fail
  have hw7 : w6.setCell ⟨w.heap.size + 1 + 1 + 1 + 1, 2, none⟩ (.int .i64 1) = w6.setCell ⟨w.heap.size + 4, 2, none⟩ (.int .i64 1) := rfl
  rw [← hw7] at S7
  generalize w6.setCell ⟨w.heap.size + 1 + 1 + 1 + 1, 2, none⟩ (.int .i64 1) = w7 at S7 ⊢
  replace S7 : Apf w #[.slice Ap np cp, .slice Ar nr cr, .int .i64 ep, .slice Am nm cm] q.arr #[.int .i64 q.client, .int .i64 q.num, .int .i64 1, .slice none 0 0] w7 := S7
  have hqa := rp_ones4 q.client q.num 1 none 0 0
  have S7d := S7.below ((Below.refl w7.heap.size w7).drew)
  have eK : ∀ w', Apf w #[.slice Ap np cp, .slice Ar nr cr, .int .i64 ep, .slice Am nm cm] q.arr #[.int .i64 (q.client), .int .i64 (q.num), .int .i64 1, .slice none 0 0] w' → (rowAt w' w.heap.size 0 4 = some #[.slice Ap np cp, .slice Ar nr cr, .int .i64 ep, .slice Am nm cm] ∧ rowAt w' (w.heap.size + 1 + 1 + 1 + 1) 0 4 = some #[.int .i64 (q.client), .int .i64 (q.num), .int .i64 1, .slice none 0 0]) := fun w' S =>
    ⟨by unfold rowAt; rw [S.s]; exact cut_all _ _ rfl, by unfold rowAt; rw [S.a]; exact cut_all _ _ rfl⟩
  have hcp : ∀ w', Apf w #[.slice Ap np cp, .slice Ar nr cr, .int .i64 ep, .slice Am nm cm] q.arr #[.int .i64 (q.client), .int .i64 (q.num), .int .i64 1, .slice none 0 0] w' → Calls Tryd.prog 25 #[.agg #[.slice Ap np cp, .slice Ar nr cr, .int .i64 ep, .slice Am nm cm]] w' fun e w9 => ∃ B1 c1 B2 c2 B3 c3 R O', e = .returned (.agg #[.slice B1 np c1, .slice B2 nr c2, .int .i64 ep, .slice B3 nm c3]) ∧
      OwnS w'.heap.size O' w9 (.slice B1 np c1) (.slice B2 nr c2) (.slice B3 nm c3) ps R ms ∧ R.map Rp.d = rs.map Rp.d ∧ Apf w #[.slice Ap np cp, .slice Ar nr cr, .int .i64 ep, .slice Am nm cm] q.arr #[.int .i64 (q.client), .int .i64 (q.num), .int .i64 1, .slice none 0 0] w9 ∧ Below w'.heap.size w' w9 := fun w' S => by
    refine (copied_any _ ps rs ep ms _ (H0.out.below S.b) HN.out.2.2.2.1 HN.out.2.2.2.2.1 (by have := HN.out.2.2.2.2.2; omega)).mono ?_
    rintro e w9 ⟨vp, vr, vm, R, O', rfl, OW9, hRd, hb9⟩
    obtain ⟨Aq, cq, hvp, -, -⟩ := own_shape OW9.p
    obtain ⟨Ax, cx, hvr, -, -⟩ := own_shape OW9.r
    obtain ⟨Ac, cc, hvm, -, -⟩ := own_shape OW9.m
    have hRl : R.length = nr := by
      have := congrArg List.length hRd
      rw [List.length_map, List.length_map, HN.out.2.1] at this
      exact this
    rw [HN.out.1] at hvp
    rw [hRl] at hvr
    rw [HN.out.2.2.1] at hvm
    subst hvp hvr hvm
    exact ⟨Aq, cq, Ax, cx, Ac, cc, R, O', rfl, OW9, hRd, S.below hb9, hb9⟩
  go_region_held3 (fun w' => rowAt w' w.heap.size 0 4 = some #[.slice Ap np cp, .slice Ar nr cr, .int .i64 ep, .slice Am nm cm] ∧ rowAt w' (w.heap.size + 1 + 1 + 1 + 1) 0 4 = some #[.int .i64 (q.client), .int .i64 (q.num), .int .i64 1, .slice none 0 0]) (first | exact eK _ (by assumption))
    (first | (go_at_call 25; refine (hcp _ S7d).mono ?_; rintro e w9 ⟨B1, c1, B2, c2, B3, c3, R, O', rfl, OW9, hRd, S9, hb9⟩
              obtain ⟨p1, p3, S10, S11, p5, p4, mz⟩ := ret2 S9 (out := #[.slice B1 np c1, .slice B2 nr c2, .int .i64 ep, .slice B3 nm c3]) rfl (st_ones _ _ _ _ _ _ _ _ _ _) rfl hqa))
  go_wp2_with fail
  refine bodyPost_ret (v := .tuple #[.agg #[.slice B1 np c1, .slice B2 nr c2, .int .i64 ep, .slice B3 nm c3], .agg #[.int .i64 (q.client), .int .i64 (q.num), .int .i64 1, .slice none 0 0]]) (by rw [results_cc Tryd.results17]; simp [go_sem, p4, p5]) rfl ?_
  have hwl : w.heap.size + 4 < w7.heap.size := S7.lt
  have hRl : R.length = nr := by
    have := congrArg List.length hRd
    rw [List.length_map, List.length_map, HN.out.2.1] at this
    exact this
  have V9 : OwnV (w.heap.size + 5) w9 (.agg #[.slice B1 np c1, .slice B2 nr c2, .int .i64 ep, .slice B3 nm c3]) ps R ep ms := ⟨O', _, _, _, rfl, OW9.base hwl, by have := HN.out.2.2.2.2.1; omega, by have h1 := HN.out.2.2.2.2.2; have h2 := HN.out.2.1; omega, by have := HN.out.2.2.2.1; omega⟩
  have Vz := V9.mv mz (fun k hk => by rcases hk with hk | hk <;> omega)
  exact ⟨_, .slice none 0 0, R, rfl, Vz.base (by omega), hRd, ot_nil _ _, S11.b⟩
end Go.Proofs.YtfnfgnhbnffagaaDoor

/-
A request that is old, that comes again.
-/
namespace Go.Proofs.YtfnfgnhbnffagaaDoor
open Go.RowKit
set_option linter.unusedVariables false
set_option linter.unusedSimpArgs false
set_option maxRecDepth 100000
theorem Apf.putA {W w : World} {sa qa aa aa' : Array Value} (h : Apf W sa qa aa w) : Apf W sa qa aa' (w.setRow (W.heap.size + 4) aa') := by
  have hn : ∀ k, k ≠ W.heap.size + 4 → (w.setRow (W.heap.size + 4) aa').heap[k]? = w.heap[k]? := fun k hk => setRow_other _ _ _ _ hk
  exact ⟨h.b.trans ((Mv.setRow (fp := (· = W.heap.size + 4)) w (W.heap.size + 4) aa' rfl).below h.b.size (fun i hi => by omega)), (hn _ (by omega)).trans h.s, (hn _ (by omega)).trans h.q, h.z.of_block (hn _ (by omega)), h.y.of_block (hn _ (by omega)), setRow_heap _ _ _ _ _ _ h.a⟩
set_option maxHeartbeats 4000000 in
theorem sapply_old (v : Value) (ps : List Pr) (rs : List Rp) (ep : Int) (ms : List Mb) (q : Rq) (w : World) (h : StS w v ps rs ep ms) (hq : q.ok) (hg : rqGood q = true) (hl : lastB rs q.client = true) (hnum : (rs.getD (lastI rs q.client) default).num > q.num) (hm : ms.length ≤ 100000) (hp : ps.length ≤ 100000) (hr : rs.length ≤ 99999) :
    Calls Tryd.prog 17 #[v, .agg q.arr] w (ApStay ps rs ep ms q.client q.num 8 [] w) := by
  have H0 := Lib.hid h
  obtain ⟨Ap, cp, Ar, cr, Am, cm, rfl, h1, h2, h3, h4, h5, h6, h7⟩ := h.ex
  obtain ⟨np, hnp⟩ : ∃ n, ps.length = n := ⟨_, rfl⟩
  obtain ⟨nr, hnr⟩ : ∃ n, rs.length = n := ⟨_, rfl⟩
  obtain ⟨nm, hnm⟩ : ∃ n, ms.length = n := ⟨_, rfl⟩
  have hil := lastB_lt hl
  rw [hnr] at h3 hil
  have HN := Lib.hid (And.intro hnp (And.intro hnr (And.intro hnm (And.intro hm (And.intro hp hr)))))
  rw [hnp, hnr, hnm] at H0 ⊢
  clear h h1 h2 h4 h5 h6 h7 hnp hnr hnm hm hp hr
  have q0 := q.at0
  have q1 := q.at1
  have qs := Rq.sz hq
  have qo := Rq.ones q
  have qc := Rq.cutAll (Rq.size hq)
  have HL := Lib.hid hl
  have HQ := Lib.hid hq
  generalize hI : lastI rs q.client = i at hil hnum
  obtain ⟨b, off, rfl, hbb, hel⟩ := h3.mem (by omega)
  have hr0 := hel i hil
  have hsm := h3.small
  generalize rs.getD i default = old at hr0 hnum
  have cn := cell_of_rowAt hr0 1 _ old.at1
  generalize old.num = onum at cn hnum
  have hi1 : (i : Int) < nr := by omega
  have hi0 : ¬ (i : Int) < 0 := by omega
  have hle : decide (q.num ≤ onum) = true := decide_eq_true (by omega)
  have hnr0 : (nr : Int) ≤ 140737488355328 := by omega
  have hnum' : q.num ≤ onum := by omega
  have hnum2 : ¬ q.num = onum := by omega
  clear hr0 hel hsm old
  have S5 := Apf.start w #[.slice Ap np cp, .slice (some ⟨b, off, none⟩) nr cr, .int .i64 ep, .slice Am nm cm] q.arr #[.int .i64 q.client, .int .i64 q.num, .int .i64 0, .slice none 0 0] #[.slice none 0 0, .slice none 0 0, .int .i64 0, .slice none 0 0] #[.int .i64 0, .int .i64 0, .int .i64 0, .slice none 0 0] rfl rfl
  have HI := Lib.hid hI
  clear hl hI
  go_enter Tryd.func17, Tryd.ntmps17
  go_wp2_with fail
  refine (qGood_any HQ.out _).mono ?_
  rw [hg]
  rintro e w6 ⟨rfl, hb6⟩
  have S6 := S5.below hb6
  have k0 : rowAt w6 w.heap.size 0 4 = some #[.slice Ap np cp, .slice (some ⟨b, off, none⟩) nr cr, .int .i64 ep, .slice Am nm cm] := by unfold rowAt; rw [S6.s]; exact cut_all _ _ rfl
  have k1 : w6.cell? ⟨w.heap.size + 1, 0, none⟩ = some (.int .i64 q.client) := by rw [cell_of_row _ _ _ _ _ _ S6.q]; exact q0
  clear S5 hb6
  go_wp2_with fail
  refine (last_any _ _ (some ⟨b, off, none⟩) nr cr ep rs q.client _ (h3.below S6.b)).mono ?_
  rw [HL.out, HI.out]
  rintro e w7 ⟨rfl, hb7⟩
  have S7 := S6.below hb7
  clear S6 hb7 k0 k1
  have k0 : rowAt w7 w.heap.size 0 4 = some #[.slice Ap np cp, .slice (some ⟨b, off, none⟩) nr cr, .int .i64 ep, .slice Am nm cm] := by unfold rowAt; rw [S7.s]; exact cut_all _ _ rfl
  have k1 : w7.cell? ⟨w.heap.size, 1, none⟩ = some (.slice (some ⟨b, off, none⟩) nr cr) := by rw [cell_of_row _ _ _ _ _ _ S7.s]; rfl
  have k2 : w7.cell? ⟨w.heap.size + 1, 1, none⟩ = some (.int .i64 q.num) := by rw [cell_of_row _ _ _ _ _ _ S7.q]; exact q1
  have k3 := (S7.b.cell (p := ⟨b, off + i * 4 + 1, none⟩) hbb).trans cn
  go_wp2_with fail
  go_quiet (fail)
  have S8 := S7.below (below_drewN (Below.refl w7.heap.size w7) nq)
  generalize w7.drewN nq = w8 at S8 ⊢
  clear S7 k0 k1 k2 k3
  have k3 := (S8.b.cell (p := ⟨b, off + i * 4 + 1, none⟩) hbb).trans cn
  have k1 : w8.cell? ⟨w.heap.size, 1, none⟩ = some (.slice (some ⟨b, off, none⟩) nr cr) := by rw [cell_of_row _ _ _ _ _ _ S8.s]; rfl
  have k2 : w8.cell? ⟨w.heap.size + 1, 1, none⟩ = some (.int .i64 q.num) := by rw [cell_of_row _ _ _ _ _ _ S8.q]; exact q1
  go_wp2_with fail
  go_quiet (fail)
  have Sa := S8.below (below_drewN (Below.refl w8.heap.size w8) nq)
  generalize w8.drewN nq = wa at Sa ⊢
  clear S8 k1 k2 k3
  have c2 : wa.cell? ⟨w.heap.size + 1 + 1 + 1 + 1, 2, none⟩ = some (.int .i64 0) := by rw [cell_of_row _ _ _ _ _ _ Sa.a]; rfl
  have f2 : wa.frozen? ⟨w.heap.size + 1 + 1 + 1 + 1, 2, none⟩ = false := by simp [World.frozen?, Sa.a]
  have S7 := Sa.setA 2 (.int .i64 8)
  go_wp2_with fail
  have hw7 : wa.setCell ⟨w.heap.size + 1 + 1 + 1 + 1, 2, none⟩ (.int .i64 8) = wa.setCell ⟨w.heap.size + 4, 2, none⟩ (.int .i64 8) := rfl
  rw [← hw7] at S7
  generalize wa.setCell ⟨w.heap.size + 1 + 1 + 1 + 1, 2, none⟩ (.int .i64 8) = w7 at S7 ⊢
  replace S7 : Apf w #[.slice Ap np cp, .slice (some ⟨b, off, none⟩) nr cr, .int .i64 ep, .slice Am nm cm] q.arr #[.int .i64 q.client, .int .i64 q.num, .int .i64 8, .slice none 0 0] w7 := S7
  have hqa := rp_ones4 q.client q.num 8 none 0 0
  have S7d := S7.below ((Below.refl w7.heap.size w7).drew)
  have eK : ∀ w', Apf w #[.slice Ap np cp, .slice (some ⟨b, off, none⟩) nr cr, .int .i64 ep, .slice Am nm cm] q.arr #[.int .i64 (q.client), .int .i64 (q.num), .int .i64 8, .slice none 0 0] w' → (rowAt w' w.heap.size 0 4 = some #[.slice Ap np cp, .slice (some ⟨b, off, none⟩) nr cr, .int .i64 ep, .slice Am nm cm] ∧ rowAt w' (w.heap.size + 1 + 1 + 1 + 1) 0 4 = some #[.int .i64 (q.client), .int .i64 (q.num), .int .i64 8, .slice none 0 0]) := fun w' S =>
    ⟨by unfold rowAt; rw [S.s]; exact cut_all _ _ rfl, by unfold rowAt; rw [S.a]; exact cut_all _ _ rfl⟩
  have hcp : ∀ w', Apf w #[.slice Ap np cp, .slice (some ⟨b, off, none⟩) nr cr, .int .i64 ep, .slice Am nm cm] q.arr #[.int .i64 (q.client), .int .i64 (q.num), .int .i64 8, .slice none 0 0] w' → Calls Tryd.prog 25 #[.agg #[.slice Ap np cp, .slice (some ⟨b, off, none⟩) nr cr, .int .i64 ep, .slice Am nm cm]] w' fun e w9 => ∃ B1 c1 B2 c2 B3 c3 R O', e = .returned (.agg #[.slice B1 np c1, .slice B2 nr c2, .int .i64 ep, .slice B3 nm c3]) ∧
      OwnS w'.heap.size O' w9 (.slice B1 np c1) (.slice B2 nr c2) (.slice B3 nm c3) ps R ms ∧ R.map Rp.d = rs.map Rp.d ∧ Apf w #[.slice Ap np cp, .slice (some ⟨b, off, none⟩) nr cr, .int .i64 ep, .slice Am nm cm] q.arr #[.int .i64 (q.client), .int .i64 (q.num), .int .i64 8, .slice none 0 0] w9 ∧ Below w'.heap.size w' w9 := fun w' S => by
    refine (copied_any _ ps rs ep ms _ (H0.out.below S.b) HN.out.2.2.2.1 HN.out.2.2.2.2.1 (by have := HN.out.2.2.2.2.2; omega)).mono ?_
    rintro e w9 ⟨vp, vr, vm, R, O', rfl, OW9, hRd, hb9⟩
    obtain ⟨Aq, cq, hvp, -, -⟩ := own_shape OW9.p
    obtain ⟨Ax, cx, hvr, -, -⟩ := own_shape OW9.r
    obtain ⟨Ac, cc, hvm, -, -⟩ := own_shape OW9.m
    have hRl : R.length = nr := by
      have := congrArg List.length hRd
      rw [List.length_map, List.length_map, HN.out.2.1] at this
      exact this
    rw [HN.out.1] at hvp
    rw [hRl] at hvr
    rw [HN.out.2.2.1] at hvm
    subst hvp hvr hvm
    exact ⟨Aq, cq, Ax, cx, Ac, cc, R, O', rfl, OW9, hRd, S.below hb9, hb9⟩
  go_region_held3 (fun w' => rowAt w' w.heap.size 0 4 = some #[.slice Ap np cp, .slice (some ⟨b, off, none⟩) nr cr, .int .i64 ep, .slice Am nm cm] ∧ rowAt w' (w.heap.size + 1 + 1 + 1 + 1) 0 4 = some #[.int .i64 (q.client), .int .i64 (q.num), .int .i64 8, .slice none 0 0]) (first | exact eK _ (by assumption))
    (first | (go_at_call 25; refine (hcp _ S7d).mono ?_; rintro e w9 ⟨B1, c1, B2, c2, B3, c3, R, O', rfl, OW9, hRd, S9, hb9⟩
              obtain ⟨p1, p3, S10, S11, p5, p4, mz⟩ := ret2 S9 (out := #[.slice B1 np c1, .slice B2 nr c2, .int .i64 ep, .slice B3 nm c3]) rfl (st_ones _ _ _ _ _ _ _ _ _ _) rfl hqa))
  go_wp2_with fail
  refine bodyPost_ret (v := .tuple #[.agg #[.slice B1 np c1, .slice B2 nr c2, .int .i64 ep, .slice B3 nm c3], .agg #[.int .i64 (q.client), .int .i64 (q.num), .int .i64 8, .slice none 0 0]]) (by rw [results_cc Tryd.results17]; simp [go_sem, p4, p5]) rfl ?_
  have hwl : w.heap.size + 4 < w7.heap.size := S7.lt
  have hRl : R.length = nr := by
    have := congrArg List.length hRd
    rw [List.length_map, List.length_map, HN.out.2.1] at this
    exact this
  have V9 : OwnV (w.heap.size + 5) w9 (.agg #[.slice B1 np c1, .slice B2 nr c2, .int .i64 ep, .slice B3 nm c3]) ps R ep ms := ⟨O', _, _, _, rfl, OW9.base hwl, by have := HN.out.2.2.2.2.1; omega, by have h1 := HN.out.2.2.2.2.2; have h2 := HN.out.2.1; omega, by have := HN.out.2.2.2.1; omega⟩
  have Vz := V9.mv mz (fun k hk => by rcases hk with hk | hk <;> omega)
  exact ⟨_, .slice none 0 0, R, rfl, Vz.base (by omega), hRd, ot_nil _ _, S11.b⟩
set_option maxHeartbeats 4000000 in
theorem sapply_same (v : Value) (ps : List Pr) (rs : List Rp) (ep : Int) (ms : List Mb) (q : Rq) (w : World) (h : StS w v ps rs ep ms) (hq : q.ok) (hg : rqGood q = true) (hl : lastB rs q.client = true) (hnum : (rs.getD (lastI rs q.client) default).num = q.num) (hm : ms.length ≤ 100000) (hp : ps.length ≤ 100000) (hr : rs.length ≤ 99999) :
    Calls Tryd.prog 17 #[v, .agg q.arr] w (ApStay ps rs ep ms (rs.getD (lastI rs q.client) default).client (rs.getD (lastI rs q.client) default).num (rs.getD (lastI rs q.client) default).code (rs.getD (lastI rs q.client) default).vals w) := by
  generalize hQ : ApStay ps rs ep ms (rs.getD (lastI rs q.client) default).client (rs.getD (lastI rs q.client) default).num (rs.getD (lastI rs q.client) default).code (rs.getD (lastI rs q.client) default).vals w = Q
  have HQQ := Lib.hid hQ
  clear hQ
  have H0 := Lib.hid h
  obtain ⟨Ap, cp, Ar, cr, Am, cm, rfl, h1, h2, h3, h4, h5, h6, h7⟩ := h.ex
  obtain ⟨np, hnp⟩ : ∃ n, ps.length = n := ⟨_, rfl⟩
  obtain ⟨nr, hnr⟩ : ∃ n, rs.length = n := ⟨_, rfl⟩
  obtain ⟨nm, hnm⟩ : ∃ n, ms.length = n := ⟨_, rfl⟩
  have hil := lastB_lt hl
  rw [hnr] at h3 hil
  have HN := Lib.hid (And.intro hnp (And.intro hnr (And.intro hnm (And.intro hm (And.intro hp hr)))))
  rw [hnp, hnr, hnm] at H0 ⊢
  clear h h1 h2 h4 h5 h6 h7 hnp hnr hnm hm hp hr
  have q0 := q.at0
  have q1 := q.at1
  have qs := Rq.sz hq
  have qo := Rq.ones q
  have qc := Rq.cutAll (Rq.size hq)
  have HL := Lib.hid hl
  have HQ := Lib.hid hq
  generalize hI : lastI rs q.client = i at hil hnum
  obtain ⟨b, off, rfl, hbb, hel⟩ := h3.mem (by omega)
  have hr0 := hel i hil
  have hsm := h3.small
  generalize rs.getD i default = old at hr0 hnum
  have cn := cell_of_rowAt hr0 1 _ old.at1
  generalize old.num = onum at cn hnum
  have hi1 : (i : Int) < nr := by omega
  have hi0 : ¬ (i : Int) < 0 := by omega
  subst hnum
  have hnr0 : (nr : Int) ≤ 140737488355328 := by omega
  clear hr0 hel hsm old
  have S5 := Apf.start w #[.slice Ap np cp, .slice (some ⟨b, off, none⟩) nr cr, .int .i64 ep, .slice Am nm cm] q.arr #[.int .i64 q.client, .int .i64 q.num, .int .i64 0, .slice none 0 0] #[.slice none 0 0, .slice none 0 0, .int .i64 0, .slice none 0 0] #[.int .i64 0, .int .i64 0, .int .i64 0, .slice none 0 0] rfl rfl
  have HI := Lib.hid hI
  clear hl hI
  go_enter Tryd.func17, Tryd.ntmps17
  go_wp2_with fail
  refine (qGood_any HQ.out _).mono ?_
  rw [hg]
  rintro e w6 ⟨rfl, hb6⟩
  have S6 := S5.below hb6
  have k0 : rowAt w6 w.heap.size 0 4 = some #[.slice Ap np cp, .slice (some ⟨b, off, none⟩) nr cr, .int .i64 ep, .slice Am nm cm] := by unfold rowAt; rw [S6.s]; exact cut_all _ _ rfl
  have k1 : w6.cell? ⟨w.heap.size + 1, 0, none⟩ = some (.int .i64 q.client) := by rw [cell_of_row _ _ _ _ _ _ S6.q]; exact q0
  clear S5 hb6
  go_wp2_with fail
  refine (last_any _ _ (some ⟨b, off, none⟩) nr cr ep rs q.client _ (h3.below S6.b)).mono ?_
  rw [HL.out, HI.out]
  rintro e w7 ⟨rfl, hb7⟩
  have S7 := S6.below hb7
  clear S6 hb7 k0 k1
  have k0 : rowAt w7 w.heap.size 0 4 = some #[.slice Ap np cp, .slice (some ⟨b, off, none⟩) nr cr, .int .i64 ep, .slice Am nm cm] := by unfold rowAt; rw [S7.s]; exact cut_all _ _ rfl
  have k1 : w7.cell? ⟨w.heap.size, 1, none⟩ = some (.slice (some ⟨b, off, none⟩) nr cr) := by rw [cell_of_row _ _ _ _ _ _ S7.s]; rfl
  have k2 : w7.cell? ⟨w.heap.size + 1, 1, none⟩ = some (.int .i64 q.num) := by rw [cell_of_row _ _ _ _ _ _ S7.q]; exact q1
  have k3 := (S7.b.cell (p := ⟨b, off + i * 4 + 1, none⟩) hbb).trans cn
  go_wp2_with fail
  go_quiet (fail)
  have S8 := S7.below (below_drewN (Below.refl w7.heap.size w7) nq)
  generalize w7.drewN nq = w8 at S8 ⊢
  clear S7 k0 k1 k2 k3
  have k3 := (S8.b.cell (p := ⟨b, off + i * 4 + 1, none⟩) hbb).trans cn
  have k1 : w8.cell? ⟨w.heap.size, 1, none⟩ = some (.slice (some ⟨b, off, none⟩) nr cr) := by rw [cell_of_row _ _ _ _ _ _ S8.s]; rfl
  have k2 : w8.cell? ⟨w.heap.size + 1, 1, none⟩ = some (.int .i64 q.num) := by rw [cell_of_row _ _ _ _ _ _ S8.q]; exact q1
  go_wp2_with fail
  go_quiet (fail)
  have Sa := S8.below (below_drewN (Below.refl w8.heap.size w8) nq)
  generalize w8.drewN nq = wa at Sa ⊢
  clear S8 k1 k2 k3
  have k0 : rowAt wa w.heap.size 0 4 = some #[.slice Ap np cp, .slice (some ⟨b, off, none⟩) nr cr, .int .i64 ep, .slice Am nm cm] := by unfold rowAt; rw [Sa.s]; exact cut_all _ _ rfl
  have k1 : wa.cell? ⟨w.heap.size + 1, 0, none⟩ = some (.int .i64 q.client) := by rw [cell_of_row _ _ _ _ _ _ Sa.q]; exact q0
  go_wp2_with fail
  refine (Last_some _ ps rs ep ms q.client _ (H0.out.below Sa.b) HL.out).mono ?_
  rintro e wb ⟨hbw, v1, rfl, OTb⟩
  rw [HI.out] at OTb HQQ ⊢
  generalize rs.getD i default = r at OTb HQQ ⊢
  obtain ⟨rc, rn, re, rA, rq, rvals⟩ := r
  simp only [] at OTb HQQ ⊢
  obtain ⟨A1, cz1, rfl⟩ := ot_shape OTb rfl
  generalize rvals.length = n1 at OTb ⊢
  have Sb := Sa.below hbw
  have hqa := rp_ones4 rc rn re A1 n1 cz1
  have hBa : Bx wb (w.heap.size + 1 + 1 + 1 + 1) 4 49 := ⟨_, Sb.a, rfl⟩
  obtain ⟨p1, p2, -⟩ := hBa.put (cs := #[.int .i64 rc, .int .i64 rn, .int .i64 re, .slice A1 n1 cz1]) rfl hqa
  have S7 := Sb.putA (aa' := #[.int .i64 rc, .int .i64 rn, .int .i64 re, .slice A1 n1 cz1])
  have m7 : Mv (· = w.heap.size + 4) wb (wb.setRow (w.heap.size + 4) #[.int .i64 rc, .int .i64 rn, .int .i64 re, .slice A1 n1 cz1]) := Mv.setRow _ _ _ rfl
  have OT7 := own_mv OTb m7 (fun g hg c => by have h1 := (own_lt OTb hg).1; have h2 := Sa.lt; omega)
  clear hBa k0 k1 OTb m7
  go_wp2_with fail
  rw [show w.heap.size + 1 + 1 + 1 + 1 = w.heap.size + 4 from rfl] at *
  generalize wb.setRow (w.heap.size + 4) #[.int .i64 rc, .int .i64 rn, .int .i64 re, .slice A1 n1 cz1] = w7 at S7 OT7 ⊢
  have HOT := Lib.hid (show ∀ w9, Below w7.drew.heap.size w7.drew w9 → OT w9 wa.heap.size (.slice A1 n1 cz1) rvals from fun w9 h => own_mv (fp := fun _ => False) OT7 (Mv.of_below ((Below.refl w7.heap.size w7).drew.trans h)) (fun _ _ c => c))
  clear OT7 p1 p2
  have hqa := rp_ones4 rc rn re A1 n1 cz1
  have S7d := S7.below ((Below.refl w7.heap.size w7).drew)
  have eK : ∀ w', Apf w #[.slice Ap np cp, .slice (some ⟨b, off, none⟩) nr cr, .int .i64 ep, .slice Am nm cm] q.arr #[.int .i64 rc, .int .i64 rn, .int .i64 re, .slice A1 n1 cz1] w' → (rowAt w' w.heap.size 0 4 = some #[.slice Ap np cp, .slice (some ⟨b, off, none⟩) nr cr, .int .i64 ep, .slice Am nm cm] ∧ rowAt w' (w.heap.size + 1 + 1 + 1 + 1) 0 4 = some #[.int .i64 rc, .int .i64 rn, .int .i64 re, .slice A1 n1 cz1]) := fun w' S =>
    ⟨by unfold rowAt; rw [S.s]; exact cut_all _ _ rfl, by unfold rowAt; rw [S.a]; exact cut_all _ _ rfl⟩
  have hcp : ∀ w', Apf w #[.slice Ap np cp, .slice (some ⟨b, off, none⟩) nr cr, .int .i64 ep, .slice Am nm cm] q.arr #[.int .i64 rc, .int .i64 rn, .int .i64 re, .slice A1 n1 cz1] w' → Calls Tryd.prog 25 #[.agg #[.slice Ap np cp, .slice (some ⟨b, off, none⟩) nr cr, .int .i64 ep, .slice Am nm cm]] w' fun e w9 => ∃ B1 c1 B2 c2 B3 c3 R O', e = .returned (.agg #[.slice B1 np c1, .slice B2 nr c2, .int .i64 ep, .slice B3 nm c3]) ∧
      OwnS w'.heap.size O' w9 (.slice B1 np c1) (.slice B2 nr c2) (.slice B3 nm c3) ps R ms ∧ R.map Rp.d = rs.map Rp.d ∧ Apf w #[.slice Ap np cp, .slice (some ⟨b, off, none⟩) nr cr, .int .i64 ep, .slice Am nm cm] q.arr #[.int .i64 rc, .int .i64 rn, .int .i64 re, .slice A1 n1 cz1] w9 ∧ Below w'.heap.size w' w9 := fun w' S => by
    refine (copied_any _ ps rs ep ms _ (H0.out.below S.b) HN.out.2.2.2.1 HN.out.2.2.2.2.1 (by have := HN.out.2.2.2.2.2; omega)).mono ?_
    rintro e w9 ⟨vp, vr, vm, R, O', rfl, OW9, hRd, hb9⟩
    obtain ⟨Aq, cq, hvp, -, -⟩ := own_shape OW9.p
    obtain ⟨Ax, cx, hvr, -, -⟩ := own_shape OW9.r
    obtain ⟨Ac, cc, hvm, -, -⟩ := own_shape OW9.m
    have hRl : R.length = nr := by
      have := congrArg List.length hRd
      rw [List.length_map, List.length_map, HN.out.2.1] at this
      exact this
    rw [HN.out.1] at hvp
    rw [hRl] at hvr
    rw [HN.out.2.2.1] at hvm
    subst hvp hvr hvm
    exact ⟨Aq, cq, Ax, cx, Ac, cc, R, O', rfl, OW9, hRd, S.below hb9, hb9⟩
  go_region_held3 (fun w' => rowAt w' w.heap.size 0 4 = some #[.slice Ap np cp, .slice (some ⟨b, off, none⟩) nr cr, .int .i64 ep, .slice Am nm cm] ∧ rowAt w' (w.heap.size + 1 + 1 + 1 + 1) 0 4 = some #[.int .i64 rc, .int .i64 rn, .int .i64 re, .slice A1 n1 cz1]) (first | exact eK _ (by assumption))
    (first | (go_at_call 25; refine (hcp _ S7d).mono ?_; rintro e w9 ⟨B1, c1, B2, c2, B3, c3, R, O', rfl, OW9, hRd, S9, hb9⟩
              obtain ⟨p1, p3, S10, S11, p5, p4, mz⟩ := ret2 S9 (out := #[.slice B1 np c1, .slice B2 nr c2, .int .i64 ep, .slice B3 nm c3]) rfl (st_ones _ _ _ _ _ _ _ _ _ _) rfl hqa))
  go_wp2_with fail
  refine bodyPost_ret (v := .tuple #[.agg #[.slice B1 np c1, .slice B2 nr c2, .int .i64 ep, .slice B3 nm c3], .agg #[.int .i64 rc, .int .i64 rn, .int .i64 re, .slice A1 n1 cz1]]) (by rw [results_cc Tryd.results17]; simp [go_sem, p4, p5]) rfl ?_
  have hwl : w.heap.size + 4 < w7.heap.size := S7.lt
  have hRl : R.length = nr := by
    have := congrArg List.length hRd
    rw [List.length_map, List.length_map, HN.out.2.1] at this
    exact this
  have V9 : OwnV (w.heap.size + 5) w9 (.agg #[.slice B1 np c1, .slice B2 nr c2, .int .i64 ep, .slice B3 nm c3]) ps R ep ms := ⟨O', _, _, _, rfl, OW9.base hwl, by have := HN.out.2.2.2.2.1; omega, by have h1 := HN.out.2.2.2.2.2; have h2 := HN.out.2.1; omega, by have := HN.out.2.2.2.1; omega⟩
  have Vz := V9.mv mz (fun k hk => by rcases hk with hk | hk <;> omega)
  have OT9 := own_mv (fp := fun k => k = w.heap.size + 2 ∨ k = w.heap.size + 3) (HOT.out w9 hb9) mz (fun g hg c => by have h1 := (own_lt (HOT.out w9 hb9) hg).1; have h2 := Sa.lt; rcases c with c | c <;> omega)
  have hQQ := HQQ.out
  rw [← hQQ]
  exact ⟨_, _, R, rfl, Vz.base (by omega), hRd, own_mono OT9 (by have := Sa.lt; omega), S11.b⟩

end Go.Proofs.YtfnfgnhbnffagaaDoor
