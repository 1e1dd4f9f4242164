/-
Check: what a log bears out.
-/
import Derived.Test.YtfnfgnhbnffagaaDoorZQe
import Derived.Test.YtfnfgnhbnffagaaDoorZLast
namespace Go.Proofs.YtfnfgnhbnffagaaDoor
open Go.RowKit
set_option linter.unusedVariables false
set_option linter.unusedSimpArgs false
set_option maxRecDepth 100000
@[go_sem ↓] theorem lv_name (a : Addr) : loadVar 66 a = ldVar 66 a := rfl
@[go_sem ↓] theorem sv_name (a : Addr) (v : Value) : storeVar 66 a v = stVar 66 a v := rfl
@[go_sem] theorem run_lv_name (w : World) (b o : Nat) : (ldVar 66 ⟨b, o, none⟩).run Tryd.prog w = match rowAt w b o 2 with | some cs => .ok (.agg cs) w | none => (ldRaw 66 ⟨b, o, none⟩).run Tryd.prog w :=
  run_ldVar w 66 b o 2 _ Tryd.underlying66 rfl (by kernel_rfl)
@[go_sem] theorem run_sv_name (w : World) (b : Nat) (cs : Array Value) : (stVar 66 ⟨b, 0, none⟩ (.agg cs)).run Tryd.prog w = match putRow w b 2 cs with | some w' => .ok () w' | none => (stRaw 66 ⟨b, 0, none⟩ (.agg cs)).run Tryd.prog w :=
  run_stVar w 66 b 2 cs (by kernel_rfl)
@[go_sem] theorem nm_sz (a b : Int) : SizeIs #[.int .i64 a, .int .i64 b] 2 := rfl
@[go_sem] theorem nm_ones (a b : Int) : oneCells #[.int .i64 a, .int .i64 b] = true := by simp [oneCells, Value.oneCell']
/-- is a request executed? -/
def freshP (s : Reg) (q : Rq) : Bool := rqGood q && (!lastB (s.ds.map Rd.p) q.client || decide (((s.ds.map Rd.p).getD (lastI (s.ds.map Rd.p) q.client) default).num < q.num))
abbrev Plc := Int → Int → Option (Nat × Rd)
def setP {α : Type} (f : Int → Int → Option α) (c m : Int) (v : α) : Int → Int → Option α := fun c' m' => if c' = c ∧ m' = m then some v else f c' m'
/-- a log's first requests, executed -/
def logK (s : Reg) (qs : List Rq) : Nat → Reg × Plc
  | 0 => (s, fun _ _ => none)
  | k + 1 => ((applyP (logK s qs k).1 (qs.getD k default)).1, if freshP (logK s qs k).1 (qs.getD k default) = true then setP (logK s qs k).2 (qs.getD k default).client (qs.getD k default).num (k, (applyP (logK s qs k).1 (qs.getD k default)).2) else (logK s qs k).2)
/-- an event that a log doesn't bear out -/
noncomputable def evFail (qs : List Rq) (F : Plc) (m : Ev) : Int :=
  if m.done < 0 then 0 else match F m.q.client m.q.num with
    | none => 7
    | some x => if (!rqEq (qs.getD x.1 default) m.q || !sameR x.2 m.r.d) = true then 9 else 0
def chainB (F : Plc) (a b : Ev) : Bool := match F a.q.client a.q.num, F b.q.client b.q.num with
  | some x, some y => decide (0 ≤ a.done) && decide (a.done < b.called) && decide (y.1 ≤ x.1)
  | _, _ => false
noncomputable def checkP (s : Reg) (qs : List Rq) (es : List Ev) : Int :=
  match (es.map (evFail qs (logK s qs qs.length).2)).find? (fun c => decide (c ≠ 0)) with
  | some c => c
  | none => if (es.any fun a => es.any fun b => chainB (logK s qs qs.length).2 a b) = true then 12 else 0
/-- places and replies, in memory -/
abbrev Plm := Int → Int → Option (Nat × Rp)
def Plm.d (F : Plm) : Plc := fun c m => (F c m).map fun x => (x.1, x.2.d)
def Plm.i (F : Plm) : Int → Int → Option Value := fun c m => (F c m).map fun x => .int .i64 (x.1 : Int)
def Plm.r (F : Plm) : Int → Int → Option Value := fun c m => (F c m).map fun x => .agg x.2.arr
theorem setF_i (F : Plm) (c m : Int) (x : Nat × Rp) : setF F.i c m (.int .i64 (x.1 : Int)) = Plm.i (setP F c m x) := by
  funext c' m'
  unfold setF Plm.i setP
  split <;> rfl
theorem setF_r (F : Plm) (c m : Int) (x : Nat × Rp) : setF F.r c m (.agg x.2.arr) = Plm.r (setP F c m x) := by
  funext c' m'
  unfold setF Plm.r setP
  split <;> rfl
theorem setP_d (F : Plm) (c m : Int) (x : Nat × Rp) : Plm.d (setP F c m x) = setP F.d c m (x.1, x.2.d) := by
  funext c' m'
  unfold Plm.d setP
  split <;> rfl
/-- the boxes that Check writes -/
abbrev Bx3 (W : Nat) : Nat → Prop := fun b => b = W + 1 ∨ b = W + 2 ∨ b = W + 3
/-- what stands ahead of a round over the log -/
structure LogS (W : World) (s : Reg) (qs : List Rq) (k : Nat) (w : World) (Ap : Option Addr) (np cp : Nat) (Ar : Option Addr) (nr cr : Nat) (ep : Int) (Am : Option Addr) (nm cm : Nat) (ps : List Pr) (rs : List Rp) (ms : List Mb) (F : Plm) : Prop where
  b : Below W.heap.size W w
  sz : W.heap.size + 4 ≤ w.heap.size
  box : w.heap[W.heap.size + 1]? = some (.cells #[.slice Ap np cp, .slice Ar nr cr, .int .i64 ep, .slice Am nm cm] 28 (0, 0))
  st : ∀ w', Mv (Bx3 W.heap.size) w w' → StS w' (.agg #[.slice Ap np cp, .slice Ar nr cr, .int .i64 ep, .slice Am nm cm]) ps rs ep ms
  eq : (Reg.mk ps (rs.map Rp.d) ep ms, F.d) = logK s qs k
  fit : Fits k (Reg.mk ps (rs.map Rp.d) ep ms)
  m1 : MapF w (W.heap.size + 2) k F.i
  m2 : MapF w (W.heap.size + 3) k F.r
  rep : ∀ c m x, F c m = some x → x.1 < k ∧ ∀ w', Mv (Bx3 W.heap.size) w w' → RpS w' x.2
theorem last_both (v : Value) (ps : List Pr) (rs : List Rp) (ep : Int) (ms : List Mb) (c : Int) (w : World) (h : StS w v ps rs ep ms) : Calls Tryd.prog 16 #[v, .int .i64 c] w fun e w' => ∃ l0 l1 l2 LA ln lc, e = .returned (.tuple #[.agg #[.int .i64 l0, .int .i64 l1, .int .i64 l2, .slice LA ln lc], .bool (lastB rs c)]) ∧ (lastB rs c = true → l1 = (rs.getD (lastI rs c) default).num) ∧ Below w.heap.size w w' := by
  cases hb : lastB rs c with
  | false =>
    refine (Last_none v ps rs ep ms c w h hb).mono ?_
    rintro e w' ⟨rfl, h2⟩
    exact ⟨0, 0, 0, none, 0, 0, rfl, (fun h => by cases h), h2⟩
  | true =>
    refine (Last_some v ps rs ep ms c w h hb).mono ?_
    rintro e w' ⟨h2, v', rfl, ho⟩
    obtain ⟨A, cp, rfl⟩ := ot_shape ho rfl
    exact ⟨_, _, _, A, _, cp, rfl, fun _ => rfl, h2⟩
theorem freshP_eq (ps : List Pr) (rs : List Rp) (ep : Int) (ms : List Mb) (q : Rq) : freshP ⟨ps, rs.map Rp.d, ep, ms⟩ q = (rqGood q && (!lastB rs q.client || decide ((rs.getD (lastI rs q.client) default).num < q.num))) := by
  unfold freshP
  simp only [lastI_map, lastB_map]
  by_cases h : lastB rs q.client = true
  · rw [getD_map (lastB_lt h)]; rfl
  · rw [Bool.not_eq_true] at h
    rw [h]; simp
theorem find_first (l : List Int) (j : Nat) (c : Int) (h1 : ∀ i, i < j → l[i]? = some 0) (h2 : l[j]? = some c) (h0 : c ≠ 0) : l.find? (fun c => decide (c ≠ 0)) = some c := by
  induction l generalizing j with
  | nil => cases h2
  | cons x t ih =>
    cases j with
    | zero =>
      simp at h2
      subst h2
      rw [List.find?_cons_of_pos (by simpa using h0)]
    | succ j =>
      have hx : x = 0 := by have := h1 0 (by omega); simpa using this
      rw [List.find?_cons_of_neg (by simp [hx])]
      exact ih j (fun i hi => by have := h1 (i + 1) (by omega); simpa using this) (by simpa using h2)
theorem getD_some {α : Type} [Inhabited α] {l : List α} {i : Nat} (h : i < l.length) : l[i]? = some (l.getD i default) := by
  rw [List.getD_eq_getElem?_getD, List.getElem?_eq_getElem h]; rfl
theorem lt_of_rowAt {w : World} {b o n : Nat} {cs : Array Value} (h : rowAt w b o n = some cs) : b < w.heap.size := by
  unfold rowAt at h
  rcases hh : w.heap[b]? with _ | x
  · rw [hh] at h; cases h
  · exact (Array.getElem?_eq_some_iff.1 hh).1
theorem rowAt_same {w w' : World} {b o n : Nat} (h : w'.heap[b]? = w.heap[b]?) : rowAt w' b o n = rowAt w b o n := by
  unfold rowAt
  rw [h]
set_option maxHeartbeats 4000000 in
theorem check_any (v : Value) (ps : List Pr) (rs : List Rp) (ep : Int) (ms : List Mb) (A : Option Addr) (n cap : Nat) (qs : List Rq) (A' : Option Addr) (n' cap' : Nat) (es : List Ev) (w : World) (h : StS w v ps rs ep ms) (hf : Fits 0 ⟨ps, rs.map Rp.d, ep, ms⟩) (hpw : Pow w)
    (hqs : QS w A n qs) (hqf : ∀ q ∈ qs, q.few) (hes : ES w A' n' es) (hev : ∀ m ∈ es, EvS w m) (hn : n ≤ 100) (hn' : n' ≤ 100) :
    Calls Tryd.prog 8 #[v, .slice A n cap, .slice A' n' cap'] w fun e w' => e = .returned (.int .i64 (checkP ⟨ps, rs.map Rp.d, ep, ms⟩ qs es)) ∧ Below w.heap.size w w' := by
  obtain ⟨Ap, cp, Ar, cr, Am, cm, hv, -⟩ := h.ex
  obtain ⟨np, hnp⟩ : ∃ n, ps.length = n := ⟨_, rfl⟩
  obtain ⟨nr, hnr⟩ : ∃ n, rs.length = n := ⟨_, rfl⟩
  obtain ⟨nm, hnm⟩ : ∃ n, ms.length = n := ⟨_, rfl⟩
  rw [hnp, hnr, hnm] at hv
  subst hv
  have hni : (n : Int) ≤ 100 := by omega
  have hni' : (n' : Int) ≤ 100 := by omega
  obtain ⟨s, hs⟩ : ∃ s, Reg.mk ps (rs.map Rp.d) ep ms = s := ⟨_, rfl⟩
  obtain ⟨w4, hw4⟩ : ∃ w4, (((w.alloc (.cells #[.slice Ap np cp, .slice Ar nr cr, .int .i64 ep, .slice Am nm cm] 28)).alloc (.cells #[.slice Ap np cp, .slice Ar nr cr, .int .i64 ep, .slice Am nm cm] 28)).alloc (.map #[] 0)).alloc (.map #[] 0) = w4 := ⟨_, rfl⟩
  generalize hR : checkP ⟨ps, rs.map Rp.d, ep, ms⟩ qs es = R
  have E := Lib.hid (And.intro hqs (And.intro hqf (And.intro hes (And.intro hev (And.intro hn (And.intro hn' (And.intro hR (And.intro hpw (And.intro h (And.intro hf hs))))))))))
  clear hqs hqf hes hev hn hn' hR hpw h hf hs hnp hnr hnm
  have hmm := @run_makeMap Tryd.prog
  have hz4 : w4.heap.size = w.heap.size + 4 := by rw [← hw4]; simp
  have hb4 : Below w.heap.size w w4 := by
    rw [← hw4]
    exact ((((Below.refl _ _).alloc (Nat.le_refl _) _).alloc (by simp) _).alloc (by simp; omega) _).alloc (by simp; omega) _
  have p1 : ∀ (w : World) (o : Obj) (k : Nat) (x : Obj), w.heap[k]? = some x → (w.alloc o).heap[k]? = some x := fun w o k x hx => (Below.heap_alloc w o k (Array.getElem?_eq_some_iff.1 hx).1).trans hx
  have hg1 : w4.heap[w.heap.size + 1]? = some (.cells #[.slice Ap np cp, .slice Ar nr cr, .int .i64 ep, .slice Am nm cm] 28 (0, 0)) := by
    rw [← hw4]
    refine p1 _ _ _ _ (p1 _ _ _ _ ?_)
    have := heap_alloc_new (w.alloc (.cells #[.slice Ap np cp, .slice Ar nr cr, .int .i64 ep, .slice Am nm cm] 28)) (.cells #[.slice Ap np cp, .slice Ar nr cr, .int .i64 ep, .slice Am nm cm] 28)
    simpa using this
  have hm2 : MapF w4 (w.heap.size + 2) 0 (Plm.i fun _ _ => none) := by
    have h1 := MapF.made ((w.alloc (.cells #[.slice Ap np cp, .slice Ar nr cr, .int .i64 ep, .slice Am nm cm] 28)).alloc (.cells #[.slice Ap np cp, .slice Ar nr cr, .int .i64 ep, .slice Am nm cm] 28))
    have h2 := h1.mv (Mv.alloc (fp := fun _ => False) _ (.map #[] 0)) (fun c => c)
    rw [hw4] at h2
    rw [show ((w.alloc (.cells #[.slice Ap np cp, .slice Ar nr cr, .int .i64 ep, .slice Am nm cm] 28)).alloc (.cells #[.slice Ap np cp, .slice Ar nr cr, .int .i64 ep, .slice Am nm cm] 28)).heap.size = w.heap.size + 2 by simp] at h2
    exact h2
  have hm3 : MapF w4 (w.heap.size + 3) 0 (Plm.r fun _ _ => none) := by
    have h1 := MapF.made (((w.alloc (.cells #[.slice Ap np cp, .slice Ar nr cr, .int .i64 ep, .slice Am nm cm] 28)).alloc (.cells #[.slice Ap np cp, .slice Ar nr cr, .int .i64 ep, .slice Am nm cm] 28)).alloc (.map #[] 0))
    rw [hw4] at h1
    rw [show (((w.alloc (.cells #[.slice Ap np cp, .slice Ar nr cr, .int .i64 ep, .slice Am nm cm] 28)).alloc (.cells #[.slice Ap np cp, .slice Ar nr cr, .int .i64 ep, .slice Am nm cm] 28)).alloc (.map #[] 0)).heap.size = w.heap.size + 3 by simp] at h1
    exact h1
  have L0 : LogS w s qs 0 w4 Ap np cp Ar nr cr ep Am nm cm ps rs ms (fun _ _ => none) :=
    ⟨hb4, by omega, hg1, fun w' m => E.out.2.2.2.2.2.2.2.2.1.below (hb4.trans (m.below (by omega) (fun i hi => by rcases hi with hi | hi | hi <;> omega))), by rw [E.out.2.2.2.2.2.2.2.2.2.2]; rfl, E.out.2.2.2.2.2.2.2.2.2.1, hm2, hm3, fun c m x hx => by cases hx⟩
  have HL0 := Lib.hid L0
  clear L0 hm2 hm3 hg1 p1 hb4 hz4
  go_enter Tryd.func8, Tryd.ntmps8
  go_wp2_with fail
  clear hw4 hmm
  go_loopw [10, 11, 12, 13, 14, 15, 34] (fun t10 t11 t12 t13 t14 t15 t34 wr => ∃ k : Nat, k ≤ n ∧ t34 = .int .i64 k ∧ ∃ Ap np cp Ar nr cr ep Am nm cm ps rs ms F, LogS w s qs k wr Ap np cp Ar nr cr ep Am nm cm ps rs ms F) (fun _ _ _ _ _ _ t34 _ => n - (intOf t34).toNat)
  case atStart => exact ⟨0, by omega, rfl, _, _, _, _, _, _, _, _, _, _, _, _, _, _, HL0.out⟩
  case round =>
    clear HL0
    obtain ⟨k, hk, rfl, Ap, np, cp, Ar, nr, cr, ep, Am, nm, cm, ps, rs, ms, F, L⟩ := hrel
    have hk0 : (0 : Int) ≤ k := by omega
    by_cases hlt : k < n
    · have hk1 : (k : Int) < n := by omega
      obtain ⟨b, off, rfl, hbb, hrow⟩ := E.out.1.mem (by omega)
      have hr := (rowAt_below L.b hbb _ _).trans (hrow k hlt)
      have hok := E.out.1.okAt hlt
      have hin : qs.getD k default ∈ qs := by
        rw [List.getD_eq_getElem?_getD, List.getElem?_eq_getElem (by rw [E.out.1.len]; exact hlt)]
        exact List.getElem_mem _
      have hlog : ∀ p : Reg × Plc, logK s qs k = p → logK s qs (k + 1) = ((applyP p.1 (qs.getD k default)).1, if freshP p.1 (qs.getD k default) = true then setP p.2 (qs.getD k default).client (qs.getD k default).num (k, (applyP p.1 (qs.getD k default)).2) else p.2) := fun p hp => by
        rw [← hp]; rfl
      have hlog1 := hlog _ L.eq.symm
      have hfew := E.out.2.1 _ hin
      generalize qs.getD k default = q at hr hok hfew hlog1
      have qsz := Rq.sz hok
      have qon := Rq.ones q
      obtain ⟨w3, hw3⟩ : ∃ w3, ((wr.alloc (.cells q.arr 46)).alloc (.cells #[.int .i64 0, .int .i64 0, .int .i64 0, .slice none 0 0] 49)).alloc (.cells #[.int .i64 q.client, .int .i64 q.num] 66) = w3 := ⟨_, rfl⟩
      have hz3 : w3.heap.size = wr.heap.size + 3 := by rw [← hw3]; simp
      have hb3 : Below wr.heap.size wr w3 := by rw [← hw3]; exact (((Below.refl _ _).alloc (Nat.le_refl _) _).alloc (by simp) _).alloc (by simp; omega) _
      have p1 : ∀ (w : World) (o : Obj) (k : Nat) (x : Obj), w.heap[k]? = some x → (w.alloc o).heap[k]? = some x := fun w o k x hx => (Below.heap_alloc w o k (Array.getElem?_eq_some_iff.1 hx).1).trans hx
      have g0 : w3.heap[wr.heap.size]? = some (.cells q.arr 46 (0, 0)) := by rw [← hw3]; exact p1 _ _ _ _ (p1 _ _ _ _ (heap_alloc_new wr _))
      have g1 : w3.heap[wr.heap.size + 1]? = some (.cells #[.int .i64 0, .int .i64 0, .int .i64 0, .slice none 0 0] 49 (0, 0)) := by
        rw [← hw3]; refine p1 _ _ _ _ ?_; have := heap_alloc_new (wr.alloc (.cells q.arr 46)) (.cells #[.int .i64 0, .int .i64 0, .int .i64 0, .slice none 0 0] 49); simpa using this
      have g2 : w3.heap[wr.heap.size + 2]? = some (.cells #[.int .i64 q.client, .int .i64 q.num] 66 (0, 0)) := by
        rw [← hw3]; have := heap_alloc_new ((wr.alloc (.cells q.arr 46)).alloc (.cells #[.int .i64 0, .int .i64 0, .int .i64 0, .slice none 0 0] 49)) (.cells #[.int .i64 q.client, .int .i64 q.num] 66); simpa using this
      have q0 := q.at0
      have q1 := q.at1
      have hsz := L.sz
      have hbx3 := (hb3.block _ (by omega)).trans L.box
      have r31 : rowAt w3 (w.heap.size + 1) 0 4 = some #[.slice Ap np cp, .slice Ar nr cr, .int .i64 ep, .slice Am nm cm] := by unfold rowAt; rw [hbx3]; exact cut_all _ _ rfl
      have c30 : w3.cell? ⟨wr.heap.size, 0, none⟩ = some (.int .i64 q.client) := cell_of_row g0 q0
      have E1 := Lib.hid (And.intro L (And.intro hok (And.intro hfew (And.intro hlog1 (And.intro hz3 (And.intro hb3 (And.intro g0 (And.intro g1 (And.intro g2 hbx3)))))))))
      clear L hok hfew hlog1 hlog hin hrow hz3 hb3 p1 g0 g1 g2 hbx3
      go_wp2_with fail
      clear hw3
      refine (last_both _ ps rs ep ms q.client w3 (E1.out.1.st w3 (Mv.of_below E1.out.2.2.2.2.2.1))).mono ?_
      rintro e w4 ⟨l0, l1, l2, LA, ln, lc, rfl, hl1, hb4⟩
      obtain ⟨w5, hw5⟩ : ∃ w5, w4.alloc (.cells #[.int .i64 l0, .int .i64 l1, .int .i64 l2, .slice LA ln lc] 49) = w5 := ⟨_, rfl⟩
      have hz5 : w5.heap.size = w4.heap.size + 1 := by rw [← hw5]; simp
      have hb5 : Below w4.heap.size w4 w5 := by rw [← hw5]; exact (Below.refl _ _).alloc (Nat.le_refl _) _
      have g5 : w5.heap[w4.heap.size]? = some (.cells #[.int .i64 l0, .int .i64 l1, .int .i64 l2, .slice LA ln lc] 49 (0, 0)) := by rw [← hw5]; exact heap_alloc_new w4 _
      have hz3 := E1.out.2.2.2.2.1
      have hb35 : Below w3.heap.size w3 w5 := hb4.trans (hb5.mono hb4.size)
      have hbx5 := (hb35.block _ (by omega)).trans E1.out.2.2.2.2.2.2.2.2.2
      have g50 := (hb35.block _ (by omega)).trans E1.out.2.2.2.2.2.2.1
      have r51 : rowAt w5 (w.heap.size + 1) 0 4 = some #[.slice Ap np cp, .slice Ar nr cr, .int .i64 ep, .slice Am nm cm] := by unfold rowAt; rw [hbx5]; exact cut_all _ _ rfl
      have r50 : rowAt w5 wr.heap.size 0 42 = some q.arr := by unfold rowAt; rw [g50]; exact cut_all _ _ (Rq.size E1.out.2.1)
      have E2 := Lib.hid (And.intro hl1 (And.intro hb4 (And.intro hz5 (And.intro hb35 (And.intro g5 (And.intro hbx5 g50))))))
      clear hl1 hb4 hz5 hb5 hb35 g5 hbx5 g50 r31 c30 hr hbb
      go_wp2_with fail
      clear hw5 r51 r50
      refine (sapply_fit (k := k) _ ps rs ep ms q w5 (E1.out.1.st w5 (Mv.of_below (E1.out.2.2.2.2.2.1.trans (E2.out.2.2.2.1.mono E1.out.2.2.2.2.2.1.size)))) E1.out.1.fit (by omega) E1.out.2.2.1 (E.out.2.2.2.2.2.2.2.1.below (E1.out.1.b.trans ((E1.out.2.2.2.2.2.1.trans (E2.out.2.2.2.1.mono E1.out.2.2.2.2.2.1.size)).mono E1.out.1.b.size)))).mono ?_
      intro e w6 h6
      obtain ⟨B1, n1, d1, B2, n2, d2, ep', B3, n3, d3, x1, x2, x3, B4, n4, d4, rfl, ps', rs', ms', out, ov, hap, ot, hol, hb6⟩ := h6.open
      clear h6
      have hb36 : Below w3.heap.size w3 w6 := E2.out.2.2.2.1.trans (hb6.mono E2.out.2.2.2.1.size)
      have hBx1 : Bx w6 (w.heap.size + 1) 4 28 := ⟨_, (hb36.block _ (by omega)).trans E1.out.2.2.2.2.2.2.2.2.2, rfl⟩
      have g61 := (hb36.block _ (by omega)).trans E1.out.2.2.2.2.2.2.2.1
      obtain ⟨p1, p2, -⟩ := hBx1.put (cs := #[.slice B1 n1 d1, .slice B2 n2 d2, .int .i64 ep', .slice B3 n3 d3]) rfl (st_ones _ _ _ _ _ _ _ _ _ _)
      have hBx2 : Bx (w6.setRow (w.heap.size + 1) #[.slice B1 n1 d1, .slice B2 n2 d2, .int .i64 ep', .slice B3 n3 d3]) (wr.heap.size + 1) 4 49 := ⟨_, (setRow_other _ _ _ _ (by omega)).trans g61, rfl⟩
      obtain ⟨p3, p4, -⟩ := hBx2.put (cs := #[.int .i64 x1, .int .i64 x2, .int .i64 x3, .slice B4 n4 d4]) rfl (rp_ones4 _ _ _ _ _ _)
      obtain ⟨w7, hw7⟩ : ∃ w7, (w6.setRow (w.heap.size + 1) #[.slice B1 n1 d1, .slice B2 n2 d2, .int .i64 ep', .slice B3 n3 d3]).setRow (wr.heap.size + 1) #[.int .i64 x1, .int .i64 x2, .int .i64 x3, .slice B4 n4 d4] = w7 := ⟨_, rfl⟩
      have m7 : Mv (fun b => b = w.heap.size + 1 ∨ b = wr.heap.size + 1) w6 w7 := by
        rw [← hw7]
        exact (Mv.setRow (fp := fun b => b = w.heap.size + 1 ∨ b = wr.heap.size + 1) _ _ _ (.inl rfl)).trans (Mv.setRow (fp := fun b => b = w.heap.size + 1 ∨ b = wr.heap.size + 1) _ _ _ (.inr rfl)) (fun _ _ c => c)
      have hzz : wr.heap.size + 3 ≤ w6.heap.size := by have := hb36.size; omega
      have g70 : w7.heap[wr.heap.size]? = some (.cells q.arr 46 (0, 0)) := (m7.block _ (by omega) (fun c => by omega)).trans ((hb36.block _ (by omega)).trans E1.out.2.2.2.2.2.2.1)
      have g71 : w7.heap[wr.heap.size + 1]? = some (.cells #[.int .i64 x1, .int .i64 x2, .int .i64 x3, .slice B4 n4 d4] 49 (0, 0)) := by
        rw [← hw7]; exact setRow_heap _ _ _ _ _ _ ((setRow_other _ _ _ _ (by omega)).trans g61)
      have g72 : w7.heap[wr.heap.size + 2]? = some (.cells #[.int .i64 q.client, .int .i64 q.num] 66 (0, 0)) := (m7.block _ (by omega) (fun c => by omega)).trans ((hb36.block _ (by omega)).trans E1.out.2.2.2.2.2.2.2.2.1)
      have g7s : w7.heap[w.heap.size + 1]? = some (.cells #[.slice B1 n1 d1, .slice B2 n2 d2, .int .i64 ep', .slice B3 n3 d3] 28 (0, 0)) := by
        rw [← hw7, setRow_other _ _ _ _ (by omega)]; exact setRow_heap _ _ _ _ _ _ ((hb36.block _ (by omega)).trans E1.out.2.2.2.2.2.2.2.2.2)
      have g7l : w7.heap[w4.heap.size]? = some (.cells #[.int .i64 l0, .int .i64 l1, .int .i64 l2, .slice LA ln lc] 49 (0, 0)) := by
        have h1 := E2.out.2.2.1
        have h2 := E2.out.2.1.size
        have h3 := hb6.size
        exact (m7.block _ (by omega) (fun c => by omega)).trans ((hb6.block _ (by omega)).trans E2.out.2.2.2.2.1)
      have r70 : rowAt w7 wr.heap.size 0 42 = some q.arr := by unfold rowAt; rw [g70]; exact cut_all _ _ (Rq.size E1.out.2.1)
      have E3 := Lib.hid (And.intro ov (And.intro hap (And.intro ot (And.intro hol (And.intro hb6 (And.intro m7 (And.intro g70 (And.intro g71 (And.intro g72 (And.intro g7s (And.intro g7l hb36)))))))))))
      clear ov hap ot hol hb6 m7 g70 g71 g72 g7s g7l hb36 hBx1 hBx2 g61 hz3 hzz
      go_wp2_with fail
      clear hw7 p1 p2 p3 p4 r70
      refine (qGood_any E1.out.2.1 w7).mono ?_
      rintro e w8 ⟨rfl, hb8⟩
      have hz3 := E1.out.2.2.2.2.1
      have hs6 := E3.out.2.2.2.2.2.2.2.2.2.2.2.size
      have hs5 := E2.out.2.2.2.1.size
      have M8 : Mv (fun b => b = w.heap.size + 1) wr w8 := by
        have h1 : Mv (fun b => b = w.heap.size + 1) wr w6 := Mv.of_below (E1.out.2.2.2.2.2.1.trans (E3.out.2.2.2.2.2.2.2.2.2.2.2.mono E1.out.2.2.2.2.2.1.size))
        have h2 := h1.trans E3.out.2.2.2.2.2.1 (fun i hi c => by rcases c with c | c; exact c; omega)
        exact h2.trans (Mv.of_below (fp := fun _ => False) hb8) (fun i hi c => c.elim)
      have m7s := E3.out.2.2.2.2.2.1.size
      have hbx8 := (hb8.block _ (by omega)).trans E3.out.2.2.2.2.2.2.2.2.2.1
      have g82 := (hb8.block _ (by omega)).trans E3.out.2.2.2.2.2.2.2.2.1
      have g81 := (hb8.block _ (by omega)).trans E3.out.2.2.2.2.2.2.2.1
      have g80 := (hb8.block _ (by omega)).trans E3.out.2.2.2.2.2.2.1
      have hs4 := E2.out.2.1.size
      have hz5 := E2.out.2.2.1
      have hs56 := E3.out.2.2.2.2.1.size
      have g84 := (hb8.block _ (by omega)).trans E3.out.2.2.2.2.2.2.2.2.2.2.1
      have k81 : w8.cell? ⟨wr.heap.size, 1, none⟩ = some (.int .i64 q.num) := cell_of_row g80 q1
      have k84 : w8.cell? ⟨w4.heap.size, 1, none⟩ = some (.int .i64 l1) := cell_of_row g84 rfl
      have r82 : rowAt w8 (wr.heap.size + 1 + 1) 0 2 = some #[.int .i64 q.client, .int .i64 q.num] := by unfold rowAt; rw [g82]; exact cut_all _ _ rfl
      have r81 : rowAt w8 (wr.heap.size + 1) 0 4 = some #[.int .i64 x1, .int .i64 x2, .int .i64 x3, .slice B4 n4 d4] := by unfold rowAt; rw [g81]; exact cut_all _ _ rfl
      have hfit := applyP_fit E1.out.1.fit E1.out.2.2.1
      rw [← E3.out.2.1] at hfit
      have hov : ∀ w', Mv (Bx3 w.heap.size) w8 w' → StS w' (.agg #[.slice B1 n1 d1, .slice B2 n2 d2, .int .i64 ep', .slice B3 n3 d3]) ps' rs' ep' ms' := fun w' m => by
        have h1 := E3.out.1.mv E3.out.2.2.2.2.2.1 (fun i hi => .inl (by rcases hi with hi | hi <;> omega))
        have h2 := h1.mv (Mv.of_below (fp := fun _ => False) hb8) (fun i hi => hi.elim)
        exact (h2.mv m (fun i hi => .inl (by rcases hi with hi | hi | hi <;> omega))).sts
      have hrp : ∀ w', Mv (Bx3 w.heap.size) w8 w' → RpS w' ⟨x1, x2, x3, B4, d4, out⟩ := fun w' m => by
        have h1 := own_mv E3.out.2.2.1 E3.out.2.2.2.2.2.1 (fun g hg c => by have := (own_lt E3.out.2.2.1 hg).1; rcases c with c | c <;> omega)
        have h2 := own_mv h1 (Mv.of_below (fp := fun _ => False) hb8) (fun g hg c => c)
        have h3 : OT w' w5.heap.size (.slice B4 n4 d4) out := own_mv h2 m (fun g hg c => by have := (own_lt h2 hg).1; rcases c with c | c | c <;> omega)
        obtain ⟨A4', c4', hv4, hts4, hsl4⟩ := h3.ts (Nat.le_trans hfit.2.1 (by omega))
        rw [E3.out.2.2.2.1] at hv4
        cases hv4
        exact ⟨hts4, hsl4, hfit.2⟩
      have hMP : Mv (Bx3 w.heap.size) wr w8 := M8.mono (fun i hi c => .inl c)
      have hL8 : freshP ⟨ps, rs.map Rp.d, ep, ms⟩ q = false → LogS w s qs (k + 1) w8 B1 n1 d1 B2 n2 d2 ep' B3 n3 d3 ps' rs' ms' F := fun hfr =>
        ⟨E1.out.1.b.trans (M8.below E1.out.1.b.size (fun i hi => by omega)), by have := M8.size; omega, hbx8, hov, by
          rw [E1.out.2.2.2.1, hfr, ← E3.out.2.1]; rfl, hfit.1, (E1.out.1.m1.mv M8 (fun c => by omega)).mono (Nat.le_succ _), (E1.out.1.m2.mv M8 (fun c => by omega)).mono (Nat.le_succ _), fun c m x hx => ⟨Nat.lt_succ_of_lt (E1.out.1.rep c m x hx).1, fun w' m' => (E1.out.1.rep c m x hx).2 w' (hMP.trans m' (fun i hi c => c))⟩⟩
      have hL9 : freshP ⟨ps, rs.map Rp.d, ep, ms⟩ q = true → ∀ w9, Mv (fun b => b = w.heap.size + 2 ∨ b = w.heap.size + 3) w8 w9 → MapF w9 (w.heap.size + 2) (k + 1) (setF F.i q.client q.num (.int .i64 (k : Int))) → MapF w9 (w.heap.size + 3) (k + 1) (setF F.r q.client q.num (.agg #[.int .i64 x1, .int .i64 x2, .int .i64 x3, .slice B4 n4 d4])) →
          LogS w s qs (k + 1) w9 B1 n1 d1 B2 n2 d2 ep' B3 n3 d3 ps' rs' ms' (setP F q.client q.num (k, ⟨x1, x2, x3, B4, d4, out⟩)) := fun hfr w9 m9 h1 h2 => by
        have m9' : Mv (Bx3 w.heap.size) w8 w9 := m9.mono (fun i hi c => .inr c)
        have hbb := E1.out.1.b.trans (M8.below E1.out.1.b.size (fun i hi => by omega))
        refine ⟨hbb.trans (m9.below hbb.size (fun i hi => by rcases hi with hi | hi <;> omega)), by have := M8.size; have := m9.size; omega, (m9.block _ (by have := M8.size; omega) (fun c => by rcases c with c | c <;> omega)).trans hbx8, fun w' m' => hov w' (m9'.trans m' (fun i hi c => c)), ?_, hfit.1, ?_, ?_, fun c m x hx => ?_⟩
        · rw [E1.out.2.2.2.1, hfr, ← E3.out.2.1, setP_d]; rfl
        · have h3 := setF_i F q.client q.num (k, ⟨x1, x2, x3, B4, d4, out⟩)
          rw [← h3]; exact h1
        · have h3 := setF_r F q.client q.num (k, ⟨x1, x2, x3, B4, d4, out⟩)
          rw [show (Rp.mk x1 x2 x3 B4 d4 out).arr = #[.int .i64 x1, .int .i64 x2, .int .i64 x3, .slice B4 n4 d4] by rw [← E3.out.2.2.2.1]; rfl] at h3
          rw [← h3]; exact h2
        · unfold setP at hx
          split at hx
          · cases hx
            exact ⟨Nat.lt_succ_self _, fun w' m' => hrp w' (m9'.trans m' (fun i hi c => c))⟩
          · exact ⟨Nat.lt_succ_of_lt (E1.out.1.rep c m x hx).1, fun w' m' => (E1.out.1.rep c m x hx).2 w' (hMP.trans (m9'.trans m' (fun i hi c => c)) (fun i hi c => c))⟩
      have hm1 := E1.out.1.m1.mv M8 (fun c => by omega)
      have hm2 := E1.out.1.m2.mv M8 (fun c => by omega)
      have hfe := freshP_eq ps rs ep ms q
      have E4 := Lib.hid (And.intro hL8 (And.intro hL9 (And.intro hm1 (And.intro hm2 hfe))))
      clear hL8 hL9 hm1 hm2 hfe hMP hrp hov hfit g84 g80 g81 g82 hbx8 M8 hb8 m7s hs6 hs5 hz3 hs4 hz5 hs56
      obtain ⟨w9, hu1, hm9, mv9⟩ := (E4.out.2.2.1.mv (w' := w8.drew) (Mv.of_below (fp := fun _ => False) (Below.refl w8.heap.size w8).drew) (fun c => c)).store Tryd.underlying63 (by simp only [maxLen]; omega) E1.out.2.1.c E1.out.2.1.n (.int .i64 (k : Int))
      obtain ⟨w10, hu2, hm10, mv10⟩ := ((E4.out.2.2.2.1.mv (w' := w8.drew) (Mv.of_below (fp := fun _ => False) (Below.refl w8.heap.size w8).drew) (fun c => c)).mv mv9 (fun c => by omega)).store Tryd.underlying64 (by simp only [maxLen]; omega) E1.out.2.1.c E1.out.2.1.n (.agg #[.int .i64 x1, .int .i64 x2, .int .i64 x3, .slice B4 n4 d4])
      have hm9' := hm9.mv mv10 (fun c => by omega)
      have mvz : Mv (fun b => b = w.heap.size + 2 ∨ b = w.heap.size + 3) w8 w10 := ((Mv.of_below (Below.refl w8.heap.size w8).drew).trans (mv9.mono (fq := fun b => b = w.heap.size + 2 ∨ b = w.heap.size + 3) (fun i hi c => .inl c)) (fun i hi c => c)).trans (mv10.mono (fq := fun b => b = w.heap.size + 2 ∨ b = w.heap.size + 3) (fun i hi c => .inr c)) (fun i hi c => c)
      have hrl := (lt_of_rowAt r82)
      have r92 : rowAt w9 (wr.heap.size + 1 + 1) 0 2 = some #[.int .i64 q.client, .int .i64 q.num] := (rowAt_same (mv9.block _ hrl (fun c => by omega))).trans r82
      have r91 : rowAt w9 (wr.heap.size + 1) 0 4 = some #[.int .i64 x1, .int .i64 x2, .int .i64 x3, .slice B4 n4 d4] := (rowAt_same (mv9.block _ (Nat.lt_of_succ_lt hrl) (fun c => by omega))).trans r81
      have r82d : rowAt w8.drew (wr.heap.size + 1 + 1) 0 2 = some #[.int .i64 q.client, .int .i64 q.num] := r82
      have r81d : rowAt w8.drew (wr.heap.size + 1) 0 4 = some #[.int .i64 x1, .int .i64 x2, .int .i64 x3, .slice B4 n4 d4] := r81
      replace hu1 : (Instr.mapUpdate 63 (.map (some (w.heap.size + 1 + 1))) (.agg #[.int .i64 q.client, .int .i64 q.num]) (.int .i64 (k : Int))).run Tryd.prog w8.drew = .ok () w9 := hu1
      replace hu2 : (Instr.mapUpdate 64 (.map (some (w.heap.size + 1 + 1 + 1))) (.agg #[.int .i64 q.client, .int .i64 q.num]) (.agg #[.int .i64 x1, .int .i64 x2, .int .i64 x3, .slice B4 n4 d4])).run Tryd.prog w9 = .ok () w10 := hu2
      have E5 := Lib.hid (fun hfr => E4.out.2.1 hfr w10 mvz hm9' hm10)
      clear hm9 mv9 hm10 mv10 hm9' mvz hrl
      cases hg : rqGood q with
      | false =>
        have HG := Lib.hid hg
        clear hg
        go_wp2_with fail
        go_roundw
        case rel => exact ⟨k + 1, by omega, by go_num, _, _, _, _, _, _, _, _, _, _, _, _, _, _, E4.out.1 (by rw [E4.out.2.2.2.2]; rw [HG.out]; rfl)⟩
        case measure => simp [intOf]; omega
      | true =>
        have HG := Lib.hid hg
        clear hg
        cases hkn : lastB rs q.client with
        | false =>
          have HK := Lib.hid hkn
          clear hkn
          have HFR := Lib.hid (show freshP ⟨ps, rs.map Rp.d, ep, ms⟩ q = true by rw [E4.out.2.2.2.2]; rw [HG.out, HK.out]; rfl)
          go_wp2_with fail
          go_region
          go_wp2_with fail
          go_roundw
          case rel => exact ⟨k + 1, by omega, by go_num, _, _, _, _, _, _, _, _, _, _, _, _, _, _, E5.out HFR.out⟩
          case measure => simp [intOf]; omega
        | true =>
          have hl1 := E2.out.1 hkn
          have HK := Lib.hid (And.intro hkn hl1)
          clear hkn hl1
          by_cases hlq : l1 < q.num
          · have HFR := Lib.hid (show freshP ⟨ps, rs.map Rp.d, ep, ms⟩ q = true by rw [E4.out.2.2.2.2]; rw [HG.out, HK.out.1, ← HK.out.2, decide_eq_true hlq]; rfl)
            go_wp2_with fail
            go_region
            go_wp2_with fail
            go_roundw
            case rel => exact ⟨k + 1, by omega, by go_num, _, _, _, _, _, _, _, _, _, _, _, _, _, _, E5.out HFR.out⟩
            case measure => simp [intOf]; omega
          · go_wp2_with fail
            go_roundw
            case rel => exact ⟨k + 1, by omega, by go_num, _, _, _, _, _, _, _, _, _, _, _, _, _, _, E4.out.1 (by rw [E4.out.2.2.2.2]; rw [HG.out, HK.out.1, ← HK.out.2, decide_eq_false (by omega)]; rfl)⟩
            case measure => simp [intOf]; omega
    · have hkn : k = n := by omega
      subst hkn
      have hzI : ∀ w : World, (zeroValue 3).run Tryd.prog w = .ok (.int .i64 0) w := fun w => by
        have h : (Tryd.prog.info? 3).map (fun i => (i.zero, i.size)) = some (some (.int .i64 0), 1) := by kernel_rfl
        exact (zero_of_info h).1 w
      have hzR : ∀ w : World, (zeroValue 49).run Tryd.prog w = .ok (.agg #[.int .i64 0, .int .i64 0, .int .i64 0, .slice none 0 0]) w := fun w => by
        have h : (Tryd.prog.info? 49).map (fun i => (i.zero, i.size)) = some (some (.agg Rp.zero.arr), 4) := by kernel_rfl
        exact (zero_of_info h).1 w
      have hFd : (logK s qs qs.length).2 = F.d := by
        rw [E.out.1.len, ← L.eq]
      have hlkI : ∀ w' (c m : Int), Below wr.heap.size wr w' → (Lit.int .i64 c).wf = true → (Lit.int .i64 m).wf = true → (Instr.lookup 63 (.map (some (w.heap.size + 1 + 1))) (.agg #[.int .i64 c, .int .i64 m]) true).run Tryd.prog w' = .ok (match F c m with | some x => .tuple #[.int .i64 (x.1 : Int), .bool true] | none => .tuple #[.int .i64 0, .bool false]) w' := fun w' c m hb hc hm => by
        have h := (L.m1.mv (Mv.of_below (fp := fun _ => False) hb) (fun c => c)).look Tryd.underlying63 (hzI w') true hc hm
        unfold Plm.i nameV at h
        cases hF : F c m with
        | none => rw [hF] at h; exact h
        | some x => rw [hF] at h; exact h
      have hlkR : ∀ w' (c m : Int) (x : Nat × Rp), Below wr.heap.size wr w' → (Lit.int .i64 c).wf = true → (Lit.int .i64 m).wf = true → F c m = some x → (Instr.lookup 64 (.map (some (w.heap.size + 1 + 1 + 1))) (.agg #[.int .i64 c, .int .i64 m]) false).run Tryd.prog w' = .ok (.agg x.2.arr) w' := fun w' c m x hb hc hm hF => by
        have h := (L.m2.mv (Mv.of_below (fp := fun _ => False) hb) (fun c => c)).look Tryd.underlying64 (hzR w') false hc hm
        unfold Plm.r nameV at h
        rw [hF] at h
        exact h
      have hrep : ∀ c m x, F c m = some x → x.1 < k ∧ ∀ w', Below wr.heap.size wr w' → RpS w' x.2 := fun c m x hx => ⟨(L.rep c m x hx).1, fun w' hb => (L.rep c m x hx).2 w' (Mv.of_below hb)⟩
      have hbW := L.b
      have EL := Lib.hid (And.intro hFd (And.intro hlkI (And.intro hlkR (And.intro hrep hbW))))
      clear L hFd hlkI hlkR hrep hbW hzI hzR
      go_wp2_with fail
      go_loopw [17, 18, 19, 20, 79] (fun t17 t18 t19 t20 t79 wz => ∃ j : Nat, j ≤ n' ∧ t79 = .int .i64 j ∧ (∀ i, i < j → evFail qs F.d (es.getD i default) = 0) ∧ Below wr.heap.size wr wz) (fun _ _ _ _ t79 _ => n' - (intOf t79).toNat)
      case atStart => exact ⟨0, by omega, rfl, fun i hi => by omega, Below.refl _ _⟩
      case round =>
        obtain ⟨j, hj, rfl, hno, hb⟩ := hrel
        have hj0 : (0 : Int) ≤ j := by omega
        by_cases hlt' : j < n'
        · have hj1 : (j : Int) < n' := by omega
          obtain ⟨eb, eo, rfl, hebb, herow⟩ := E.out.2.2.1.mem (by omega)
          have hbw := EL.out.2.2.2.2.trans (hb.mono EL.out.2.2.2.2.size)
          have hr := (rowAt_below hbw hebb _ _).trans (herow j hlt')
          have hok := E.out.2.2.1.okAt hlt'
          have hin : es.getD j default ∈ es := by
            rw [List.getD_eq_getElem?_getD, List.getElem?_eq_getElem (by rw [E.out.2.2.1.len]; exact hlt')]
            exact List.getElem_mem _
          have hnext : evFail qs F.d (es.getD j default) = 0 → ∀ i, i < j + 1 → evFail qs F.d (es.getD i default) = 0 := fun h0 i hi => by
            rcases Nat.lt_or_ge i j with c | c
            · exact hno i c
            · obtain rfl : i = j := by omega
              exact h0
          have hstop : ∀ c, evFail qs F.d (es.getD j default) = c → c ≠ 0 → R = c := fun c hc h0 => by
            rw [← E.out.2.2.2.2.2.2.1]
            unfold checkP
            rw [show (logK ⟨_, _, _, _⟩ qs qs.length).2 = F.d from (E.out.2.2.2.2.2.2.2.2.2.2 ▸ EL.out.1)]
            have hlE := E.out.2.2.1.len
            have hff := find_first (es.map (evFail qs F.d)) j c (fun i hi => by rw [List.getElem?_map, getD_some (l := es) (i := i) (by omega), Option.map_some, hno i hi]) (by rw [List.getElem?_map, getD_some (l := es) (i := j) (by omega), Option.map_some, hc]) h0
            rw [hff]
          have hev := (E.out.2.2.2.1 _ hin).below hbw
          generalize es.getD j default = m at hr hok hin hnext hstop hev
          have e0 := Ev.at0 hok
          have e1 := Ev.at1 hok
          have hs := Ev.sz hok
          have ho := Ev.ones m
          obtain ⟨w2, hw2⟩ : ∃ w2, (wr.alloc (.cells m.arr 51)).alloc (.cells #[.int .i64 m.q.client, .int .i64 m.q.num] 66) = w2 := ⟨_, rfl⟩
          have hz2 : w2.heap.size = wr.heap.size + 2 := by rw [← hw2]; simp
          have hb2 : Below wr.heap.size wr w2 := by rw [← hw2]; exact ((Below.refl _ _).alloc (Nat.le_refl _) _).alloc (by simp) _
          have g0 : w2.heap[wr.heap.size]? = some (.cells m.arr 51 (0, 0)) := by rw [← hw2]; exact (Below.heap_alloc _ _ _ (by simp)).trans (heap_alloc_new wr _)
          have g1 : w2.heap[wr.heap.size + 1]? = some (.cells #[.int .i64 m.q.client, .int .i64 m.q.num] 66 (0, 0)) := by
            rw [← hw2]; have := heap_alloc_new (wr.alloc (.cells m.arr 51)) (.cells #[.int .i64 m.q.client, .int .i64 m.q.num] 66); simpa using this
          obtain ⟨rq, rp, re, k47⟩ := cutQ0 hok g0
          have r1 : rowAt w2 (wr.heap.size + 1) 0 2 = some #[.int .i64 m.q.client, .int .i64 m.q.num] := by unfold rowAt; rw [g1]; exact cut_all _ _ rfl
          have hB2 := hb.trans (hb2.mono hb.size)
          have hl1 := EL.out.2.1 w2 m.q.client m.q.num hB2 hok.q.c hok.q.n
          have E2 := Lib.hid (And.intro hno (And.intro hbw (And.intro hok (And.intro hin (And.intro hnext (And.intro hstop (And.intro hev (And.intro hB2 hb2))))))))
          clear hno hbw hok hin hnext hstop hev herow hb hz2 hb2 g0 g1 hB2
          cases hF : F m.q.client m.q.num with
          | none =>
            have HF := Lib.hid hF
            rw [hF] at hl1
            clear hF
            by_cases hdn : m.done < 0
            · go_wp2_with fail
              go_roundw
              case rel => exact ⟨j + 1, by omega, by go_num, E2.out.2.2.2.2.1 (by unfold evFail; rw [if_pos hdn]), E2.out.2.2.2.2.2.2.2.1⟩
              case measure => simp [intOf]; omega
            · have hRc := E2.out.2.2.2.2.2.1 7 (by unfold evFail Plm.d; rw [if_neg hdn, HF.out]; rfl) (by decide)
              subst hRc
              go_wp2_with fail
              go_ret
              exact ⟨rfl, EL.out.2.2.2.2.trans (E2.out.2.2.2.2.2.2.2.1.mono EL.out.2.2.2.2.size)⟩
          | some x =>
            obtain ⟨xi, xr⟩ := x
            have hxk := (EL.out.2.2.2.1 _ _ _ hF).1
            have HF := Lib.hid hF
            rw [hF] at hl1
            clear hF
            simp only [] at hl1 hxk
            by_cases hdn : m.done < 0
            · go_wp2_with fail
              go_roundw
              case rel => exact ⟨j + 1, by omega, by go_num, E2.out.2.2.2.2.1 (by unfold evFail; rw [if_pos hdn]), E2.out.2.2.2.2.2.2.2.1⟩
              case measure => simp [intOf]; omega
            · have hxi : (xi : Int) < k := by omega
              have hxi0 : (0 : Int) ≤ xi := by omega
              obtain ⟨lb, lo, rfl, hlb, hlrow⟩ := E.out.1.mem (by omega)
              have hbw2 := E2.out.2.1.trans (E2.out.2.2.2.2.2.2.2.2.mono E2.out.2.1.size)
              have hq : rowAt w2 lb (lo + xi * 42) 42 = some (qs.getD xi default).arr := (rowAt_below hbw2 hlb _ _).trans (hlrow xi hxk)
              have hqok := E.out.1.okAt hxk
              have hqin : qs.getD xi default ∈ qs := by
                rw [List.getD_eq_getElem?_getD, List.getElem?_eq_getElem (by rw [E.out.1.len]; exact hxk)]
                exact List.getElem_mem _
              have hvf : evFail qs F.d m = if (!rqEq (qs.getD xi default) m.q || !sameR xr.d m.r.d) = true then 9 else 0 := by
                unfold evFail Plm.d
                rw [if_neg hdn, HF.out]
                rfl
              generalize qs.getD xi default = q at hq hqok hqin hvf
              have hqN : rowAt w2.drew lb (lo + xi * 42) 42 = some q.arr := hq
              have rqd : rowAt w2.drew wr.heap.size 0 42 = some m.q.arr := rq
              have rpd : rowAt w2.drew wr.heap.size 42 4 = some m.r.arr := rp
              have r1d : rowAt w2.drew (wr.heap.size + 1) 0 2 = some #[.int .i64 m.q.client, .int .i64 m.q.num] := r1
              have hne := run_neRq hqok E2.out.2.2.1.q w2.drew
              have hl2 := EL.out.2.2.1 w2.drew m.q.client m.q.num (xi, xr) (E2.out.2.2.2.2.2.2.2.1.trans ((Below.refl w2.heap.size w2).drew.mono E2.out.2.2.2.2.2.2.2.1.size)) E2.out.2.2.1.q.c E2.out.2.2.1.q.n HF.out
              simp only [] at hl2
              have hsame : ∀ w', Below w2.heap.size w2 w' → Calls Tryd.prog 19 #[.agg xr.arr, .agg m.r.arr] w' fun e w'' => e = .returned (.bool (sameR xr.d m.r.d)) ∧ Below w'.heap.size w' w'' := fun w' hb =>
                same_any xr m.r w' ((EL.out.2.2.2.1 _ _ _ HF.out).2 w' (E2.out.2.2.2.2.2.2.2.1.trans (hb.mono E2.out.2.2.2.2.2.2.2.1.size))) ((E2.out.2.2.2.2.2.2.1.r.below E2.out.2.2.2.2.2.2.2.2).below hb)
              have E3 := Lib.hid (And.intro hvf (And.intro hsame (And.intro hqok hbw2)))
              clear hvf hqok hqin hlrow hbw2 hsame rq rp re
              have hbd : Below w2.heap.size w2 w2.drew := (Below.refl _ _).drew
              have HBD := Lib.hid hbd
              clear hbd
              cases hrq : rqEq q m.q with
              | false =>
                simp only [hrq, Bool.not_false] at hne
                have hRc := E2.out.2.2.2.2.2.1 9 (by rw [E3.out.1, hrq]; rfl) (by decide)
                subst hRc
                clear hrq
                go_wp2_with fail
                refine wp_region_tail_lit 13 (by kernel_rfl) (by kernel_rfl) ?_
                simp only [List.take_succ_cons, List.take_zero, List.drop_succ_cons, List.drop_zero]
                repeat (go_big_quiet_step (fail))
                refine wpQuiet_nil ?_
                go_wp2_with fail
                go_ret
                exact ⟨rfl, EL.out.2.2.2.2.trans ((E2.out.2.2.2.2.2.2.2.1.trans (HBD.out.mono E2.out.2.2.2.2.2.2.2.1.size)).mono EL.out.2.2.2.2.size)⟩
              | true =>
                simp only [hrq, Bool.not_true] at hne
                have HRQ := Lib.hid hrq
                clear hrq
                go_wp2_with fail
                refine wp_region_tail_lit 13 (by kernel_rfl) (by kernel_rfl) ?_
                simp only [List.take_succ_cons, List.take_zero, List.drop_succ_cons, List.drop_zero]
                repeat (go_big_quiet_step (fail))
                refine wpQuiet_nil ?_
                go_wp2_with fail
                refine (E3.out.2.1 _ HBD.out).mono ?_
                rintro e w3 ⟨rfl, hb3⟩
                have hB23 := HBD.out.trans (hb3.mono HBD.out.size)
                have HB3 := Lib.hid (E2.out.2.2.2.2.2.2.2.1.trans (hB23.mono E2.out.2.2.2.2.2.2.2.1.size))
                clear hb3 hB23
                cases hsm : sameR xr.d m.r.d with
                | false =>
                  have hRc := E2.out.2.2.2.2.2.1 9 (by rw [E3.out.1, HRQ.out, hsm]; rfl) (by decide)
                  subst hRc
                  clear hsm
                  go_wp2_with fail
                  go_ret
                  exact ⟨rfl, EL.out.2.2.2.2.trans (HB3.out.mono EL.out.2.2.2.2.size)⟩
                | true =>
                  have HSM := Lib.hid hsm
                  clear hsm
                  go_wp2_with fail
                  go_roundw
                  case rel => exact ⟨j + 1, by omega, by go_num, E2.out.2.2.2.2.1 (by rw [E3.out.1, HRQ.out, HSM.out]; rfl), HB3.out⟩
                  case measure => simp [intOf]; omega
        · have hjn : j = n' := by omega
          have hRR : R = if (es.any fun a => es.any fun b => chainB F.d a b) = true then 12 else 0 := by
            rw [← E.out.2.2.2.2.2.2.1]
            unfold checkP
            rw [show (logK ⟨_, _, _, _⟩ qs qs.length).2 = F.d from (E.out.2.2.2.2.2.2.2.2.2.2 ▸ EL.out.1)]
            have hfn : (es.map (evFail qs F.d)).find? (fun c => decide (c ≠ 0)) = none := by
              rw [List.find?_eq_none]
              intro c hc
              obtain ⟨x, hx, rfl⟩ := List.mem_map.1 hc
              obtain ⟨i, hi, rfl⟩ := List.mem_iff_getElem.1 hx
              have h0 := hno i (by rw [hjn, ← E.out.2.2.1.len]; exact hi)
              rw [List.getD_eq_getElem?_getD, List.getElem?_eq_getElem hi] at h0
              simpa using h0
            rw [hfn]
          have hbz := hb
          have HZ := Lib.hid (And.intro hRR hbz)
          clear hno hb hRR hbz
          go_wp2_with fail
          go_loopw [22, 24, 25, 26, 27, 28, 120] (fun t22 t24 t25 t26 t27 t28 t120 wz => ∃ i : Nat, i ≤ n' ∧ t120 = .int .i64 i ∧ (∀ a, a < i → ∀ b, b < n' → chainB F.d (es.getD a default) (es.getD b default) = false) ∧ Below wr.heap.size wr wz) (fun _ _ _ _ _ _ t120 _ => n' - (intOf t120).toNat)
          case atStart => exact ⟨0, by omega, rfl, fun i hi => by omega, Below.refl _ _⟩
          case round =>
            obtain ⟨i, hi, rfl, hno, hb⟩ := hrel
            have hi0 : (0 : Int) ≤ i := by omega
            by_cases hlt' : i < n'
            · have hi1 : (i : Int) < n' := by omega
              obtain ⟨eb, eo, rfl, hebb, herow⟩ := E.out.2.2.1.mem (by omega)
              have hbl := HZ.out.2.trans (hb.mono HZ.out.2.size)
              have hbw := EL.out.2.2.2.2.trans (hbl.mono EL.out.2.2.2.2.size)
              have hr := (rowAt_below hbw hebb _ _).trans (herow i hlt')
              have hoka := E.out.2.2.1.okAt hlt'
              have hnext : (∀ b, b < n' → chainB F.d (es.getD i default) (es.getD b default) = false) → ∀ a, a < i + 1 → ∀ b, b < n' → chainB F.d (es.getD a default) (es.getD b default) = false := fun h0 a ha => by
                rcases Nat.lt_or_ge a i with c | c
                · exact hno a c
                · obtain rfl : a = i := by omega
                  exact h0
              have hyes : ∀ b, b < n' → chainB F.d (es.getD i default) (es.getD b default) = true → R = 12 := fun b hb1 h0 => by
                have hlE := E.out.2.2.1.len
                rw [HZ.out.1, if_pos]
                refine List.any_eq_true.2 ⟨es.getD i default, ?_, List.any_eq_true.2 ⟨es.getD b default, ?_, h0⟩⟩
                · rw [List.getD_eq_getElem?_getD, List.getElem?_eq_getElem (by omega)]; exact List.getElem_mem _
                · rw [List.getD_eq_getElem?_getD, List.getElem?_eq_getElem (by omega)]; exact List.getElem_mem _
              generalize es.getD i default = ma at hr hoka hnext hyes
              have hs := Ev.sz hoka
              have ho := Ev.ones ma
              obtain ⟨w2, hw2⟩ : ∃ w2, wr.alloc (.cells ma.arr 51) = w2 := ⟨_, rfl⟩
              have hz2 : w2.heap.size = wr.heap.size + 1 := by rw [← hw2]; simp
              have hb2 : Below wr.heap.size wr w2 := by rw [← hw2]; exact (Below.refl _ _).alloc (Nat.le_refl _) _
              have g0 : w2.heap[wr.heap.size]? = some (.cells ma.arr 51 (0, 0)) := by rw [← hw2]; exact heap_alloc_new wr _
              have E2 := Lib.hid (And.intro (hb.trans (hb2.mono hb.size)) (And.intro (hbl.trans (hb2.mono hbl.size)) (And.intro (hbw.trans (hb2.mono hbw.size)) (And.intro hoka (And.intro hnext (And.intro hyes (And.intro g0 hz2)))))))
              clear hno hb hbl hbw hoka hnext hyes g0 hz2 hb2
              go_wp2_with fail
              clear hw2 hr
              generalize wr.heap.size = ga at E2 ⊢
              go_loopw [24, 25, 26, 27, 28, 126] (fun t24 t25 t26 t27 t28 t126 wz => ∃ l : Nat, l ≤ n' ∧ t126 = .int .i64 l ∧ (∀ b, b < l → chainB F.d ma (es.getD b default) = false) ∧ Below w2.heap.size w2 wz) (fun _ _ _ _ _ t126 _ => n' - (intOf t126).toNat)
              case atStart => exact ⟨0, by omega, rfl, fun i hi => by omega, Below.refl _ _⟩
              case round =>
                obtain ⟨l, hl, rfl, hno, hb⟩ := hrel
                have hl0 : (0 : Int) ≤ l := by omega
                by_cases hlt2 : l < n'
                · have hl1 : (l : Int) < n' := by omega
                  obtain ⟨eb, eo, heq, hebb, herow⟩ := E.out.2.2.1.mem (by omega)
                  cases heq
                  have hbl := E2.out.2.1.trans (hb.mono E2.out.2.1.size)
                  have hbw := E2.out.2.2.1.trans (hb.mono E2.out.2.2.1.size)
                  have hr := (rowAt_below hbw hebb _ _).trans (herow l hlt2)
                  have hokb := E.out.2.2.1.okAt hlt2
                  have hnext : chainB F.d ma (es.getD l default) = false → ∀ b, b < l + 1 → chainB F.d ma (es.getD b default) = false := fun h0 b hb1 => by
                    rcases Nat.lt_or_ge b l with c | c
                    · exact hno b c
                    · obtain rfl : b = l := by omega
                      exact h0
                  have hyes := E2.out.2.2.2.2.2.1 l hlt2
                  generalize es.getD l default = m at hr hokb hnext hyes
                  have hs := Ev.sz hokb
                  have ho := Ev.ones m
                  obtain ⟨w3, hw3⟩ : ∃ w3, wr.alloc (.cells m.arr 51) = w3 := ⟨_, rfl⟩
                  have hb3 : Below wr.heap.size wr w3 := by rw [← hw3]; exact (Below.refl _ _).alloc (Nat.le_refl _) _
                  have gb : w3.heap[wr.heap.size]? = some (.cells m.arr 51 (0, 0)) := by rw [← hw3]; exact heap_alloc_new wr _
                  have ga3 := ((hb.trans (hb3.mono hb.size)).block _ (by have := E2.out.2.2.2.2.2.2.2; omega)).trans E2.out.2.2.2.2.2.2.1
                  have ka0 : w3.cell? ⟨ga, 0, none⟩ = some (.int .i64 ma.q.client) := cell_of_row ga3 (Ev.at0 E2.out.2.2.2.1)
                  have ka1 : w3.cell? ⟨ga, 1, none⟩ = some (.int .i64 ma.q.num) := cell_of_row ga3 (Ev.at1 E2.out.2.2.2.1)
                  have ka47 : w3.cell? ⟨ga, 47, none⟩ = some (.int .i64 ma.done) := cell_of_row ga3 (Ev.at47 E2.out.2.2.2.1)
                  have kb0 : w3.cell? ⟨wr.heap.size, 0, none⟩ = some (.int .i64 m.q.client) := cell_of_row gb (Ev.at0 hokb)
                  have kb1 : w3.cell? ⟨wr.heap.size, 1, none⟩ = some (.int .i64 m.q.num) := cell_of_row gb (Ev.at1 hokb)
                  have kb46 : w3.cell? ⟨wr.heap.size, 46, none⟩ = some (.int .i64 m.called) := cell_of_row gb (Ev.at46 hokb)
                  have hB3 := hbl.trans (hb3.mono hbl.size)
                  have hla := EL.out.2.1 w3 ma.q.client ma.q.num hB3 E2.out.2.2.2.1.q.c E2.out.2.2.2.1.q.n
                  have hlb := EL.out.2.1 w3 m.q.client m.q.num hB3 hokb.q.c hokb.q.n
                  have E3 := Lib.hid (And.intro hB3 (And.intro hyes (And.intro hnext (And.intro (hb.trans (hb3.mono hb.size)) hokb))))
                  clear hbl hbw hyes hnext hb3 gb ga3 hB3 hno hb hokb herow
                  cases hFa : F ma.q.client ma.q.num with
                  | none =>
                    have HCB := Lib.hid (show chainB F.d ma m = false by unfold chainB Plm.d; rw [hFa]; rfl)
                    rw [hFa] at hla
                    clear hFa
                    cases hFb : F m.q.client m.q.num with
                    | none =>
                      rw [hFb] at hlb
                      clear hFb
                      simp only [] at hla hlb
                      go_wp2_with fail
                      go_roundw
                      case rel => exact ⟨l + 1, by omega, by go_num, E3.out.2.2.1 HCB.out, E3.out.2.2.2.1⟩
                      case measure => simp [intOf]; omega
                    | some y =>
                      rw [hFb] at hlb
                      clear hFb
                      simp only [] at hla hlb
                      go_wp2_with fail
                      go_roundw
                      case rel => exact ⟨l + 1, by omega, by go_num, E3.out.2.2.1 HCB.out, E3.out.2.2.2.1⟩
                      case measure => simp [intOf]; omega
                  | some x =>
                    cases hFb : F m.q.client m.q.num with
                    | none =>
                      have HCB := Lib.hid (show chainB F.d ma m = false by unfold chainB Plm.d; rw [hFa, hFb]; rfl)
                      rw [hFa] at hla
                      rw [hFb] at hlb
                      clear hFa hFb
                      simp only [] at hla hlb
                      go_wp2_with fail
                      go_roundw
                      case rel => exact ⟨l + 1, by omega, by go_num, E3.out.2.2.1 HCB.out, E3.out.2.2.2.1⟩
                      case measure => simp [intOf]; omega
                    | some y =>
                      have hch : chainB F.d ma m = (decide (0 ≤ ma.done) && decide (ma.done < m.called) && decide (y.1 ≤ x.1)) := by unfold chainB Plm.d; rw [hFa, hFb]; rfl
                      rw [hFa] at hla
                      rw [hFb] at hlb
                      clear hFa hFb
                      obtain ⟨xi, xr⟩ := x
                      obtain ⟨yi, yr⟩ := y
                      simp only [] at hla hlb hch
                      by_cases hd0 : 0 ≤ ma.done
                      · by_cases hd1 : ma.done < m.called
                        · by_cases hxy : yi ≤ xi
                          · have hxyi : (yi : Int) ≤ xi := by omega
                            have HCB := Lib.hid (show chainB F.d ma m = true by rw [hch, decide_eq_true hd0, decide_eq_true hd1, decide_eq_true hxy]; rfl)
                            clear hch
                            have hRc := E3.out.2.1 HCB.out
                            subst hRc
                            go_wp2_with fail
                            go_ret
                            exact ⟨rfl, EL.out.2.2.2.2.trans (E3.out.1.mono EL.out.2.2.2.2.size)⟩
                          · have hxyi : ¬ (yi : Int) ≤ xi := by omega
                            have HCB := Lib.hid (show chainB F.d ma m = false by rw [hch, decide_eq_false hxy, Bool.and_false])
                            clear hch
                            go_wp2_with fail
                            go_roundw
                            case rel => exact ⟨l + 1, by omega, by go_num, E3.out.2.2.1 HCB.out, E3.out.2.2.2.1⟩
                            case measure => simp [intOf]; omega
                        · have HCB := Lib.hid (show chainB F.d ma m = false by rw [hch, decide_eq_false hd1, Bool.and_false]; rfl)
                          clear hch
                          go_wp2_with fail
                          go_roundw
                          case rel => exact ⟨l + 1, by omega, by go_num, E3.out.2.2.1 HCB.out, E3.out.2.2.2.1⟩
                          case measure => simp [intOf]; omega
                      · have HCB := Lib.hid (show chainB F.d ma m = false by rw [hch, decide_eq_false hd0]; rfl)
                        clear hch
                        go_wp2_with fail
                        go_roundw
                        case rel => exact ⟨l + 1, by omega, by go_num, E3.out.2.2.1 HCB.out, E3.out.2.2.2.1⟩
                        case measure => simp [intOf]; omega
                · have hln : l = n' := by omega
                  have HB := Lib.hid (And.intro hno (hb))
                  clear hno hb
                  go_wp2_with fail
                  go_roundw
                  case rel => exact ⟨i + 1, by omega, by go_num, E2.out.2.2.2.2.1 (by rw [← hln]; exact HB.out.1), E2.out.1.trans (HB.out.2.mono E2.out.1.size)⟩
                  case measure => simp [intOf]; omega
            · have hin : i = n' := by omega
              have hRf : R = 0 := by
                rw [HZ.out.1, if_neg]
                intro h
                obtain ⟨a, ha, h1⟩ := List.any_eq_true.1 h
                obtain ⟨b, hb1, h2⟩ := List.any_eq_true.1 h1
                obtain ⟨ia, hia, rfl⟩ := List.mem_iff_getElem.1 ha
                obtain ⟨ib, hib, rfl⟩ := List.mem_iff_getElem.1 hb1
                have hlE := E.out.2.2.1.len
                have h3 := hno ia (by omega) ib (by omega)
                rw [List.getD_eq_getElem?_getD, List.getElem?_eq_getElem hia, List.getD_eq_getElem?_getD, List.getElem?_eq_getElem hib] at h3
                simp only [Option.getD_some] at h3
                rw [show chainB F.d es[ia] es[ib] = true from h2] at h3
                cases h3
              subst hRf
              have HB := Lib.hid hb
              clear hb hno
              go_wp2_with fail
              go_ret
              exact ⟨rfl, EL.out.2.2.2.2.trans ((HZ.out.2.trans (HB.out.mono HZ.out.2.size)).mono EL.out.2.2.2.2.size)⟩
end Go.Proofs.YtfnfgnhbnffagaaDoor
