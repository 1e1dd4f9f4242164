/-
The document's answer: what an operation does.
-/
import Derived.Test.YtfnfgnhbnffagaaDoorZRpm
import Derived.Deep.RegionHeld3
import Derived.BigQuiet
namespace Go.Proofs.YtfnfgnhbnffagaaDoor
open Go.RowKit
set_option linter.unusedVariables false
set_option linter.unusedSimpArgs false
set_option maxRecDepth 100000
/-- blocks that may turn behind a call: those of N, if they stood ahead of it -/
abbrev Nb (N : Nat → Prop) (w : World) : Nat → Prop := fun k => N k ∧ k < w.heap.size
def DoesQ (N : Nat → Prop) (ps : List Pr) (rs : List Rp) (ep : Int) (ms : List Mb) (op : Opn) (w : World) (e : Ending) (w' : World) : Prop :=
  ∃ v' code Av nv cv ps' ep' ms' out, e = .returned (.tuple #[v', .int .i64 code, .slice Av nv cv]) ∧ (∀ w'', Mv (Nb N w) w' w'' → StS w'' v' ps' rs ep' ms' ∧ TS w'' Av nv out) ∧ SlOk Av nv ∧ (code, out, ps', ep', ms') = doesP ps ep ms op ∧ Below w.heap.size w w'
theorem nb_old {N : Nat → Prop} {w w' w'' : World} (hb : Below w.heap.size w w') (m : Mv (Nb N w) w' w'') : Mv N w w'' := (Mv.of_below (fp := N) hb).trans m (fun i _ h => h.1)
theorem nb_new {N : Nat → Prop} {w w' w'' : World} (m : Mv (Nb N w) w' w'') {k : Nat} (h1 : w.heap.size ≤ k) (h2 : k < w'.heap.size) : w''.heap[k]? = w'.heap[k]? := m.block k h2 (fun c => by have := c.2; omega)
theorem nb_own {N : Nat → Prop} {w w' w'' : World} (m : Mv (Nb N w) w' w'') {B e sz n : Nat} {v : Value} {xs : List Value} (ho : w'.ownsRow B e sz v n xs) (hB : w.heap.size ≤ B) : w''.ownsRow B e sz v n xs := own_mv ho m (fun g hg c => by have := (own_lt ho hg).1; have := c.2; omega)
/-- what stands in the boxes of Does -/
structure Df (W : World) (S : Array Value) (op : Opn) (R : Array Value) (w : World) : Prop where
  b : Below W.heap.size W w
  s : w.heap[W.heap.size]? = some (.cells S 28 (0, 0))
  o : w.heap[W.heap.size + 1]? = some (.cells op.arr 44 (0, 0))
  r : w.heap[W.heap.size + 1 + 1]? = some (.cells R 28 (0, 0))
theorem Df.lt {W w : World} {S R : Array Value} {op : Opn} (h : Df W S op R w) : W.heap.size + 2 < w.heap.size := (Array.getElem?_eq_some_iff.1 h.r).1
theorem Df.mv {fp : Nat → Prop} {W w w' : World} {S R : Array Value} {op : Opn} (h : Df W S op R w) (m : Mv fp w w') (hf : ∀ i, fp i → W.heap.size + 2 < i) : Df W S op R w' := by
  have l := h.lt
  exact ⟨h.b.trans (m.below h.b.size (fun i hi => by have := hf i hi; omega)), (m.block _ (by omega) (fun c => by have := hf _ c; omega)).trans h.s, (m.block _ (by omega) (fun c => by have := hf _ c; omega)).trans h.o, (m.block _ (by omega) (fun c => by have := hf _ c; omega)).trans h.r⟩
theorem Df.below {W w w' : World} {S R : Array Value} {op : Opn} (h : Df W S op R w) (hb : Below w.heap.size w w') : Df W S op R w' := h.mv (Mv.of_below (fp := fun _ => False) hb) (fun _ c => c.elim)
theorem Df.set {W w : World} {S R : Array Value} {op : Opn} (h : Df W S op R w) (i : Nat) (v : Value) : Df W (S.setIfInBounds i v) op R (w.setCell ⟨W.heap.size, i, none⟩ v) :=
  ⟨h.b.setCell (p := ⟨W.heap.size, i, none⟩) (Nat.le_refl _) _, heap_setCell_same w _ i _ _ v h.s, (heap_setCell_ne _ _ _ (by simp)).trans h.o, (heap_setCell_ne _ _ _ (by simp; omega)).trans h.r⟩
theorem Df.put {W w : World} {S R R' : Array Value} {op : Opn} (h : Df W S op R w) (hR : R.size = 4) (hs : R'.size = 4) (h1 : oneCells R' = true) :
    putRow w (W.heap.size + 1 + 1) 4 R' = some (w.setRow (W.heap.size + 1 + 1) R') ∧ rowAt (w.setRow (W.heap.size + 1 + 1) R') (W.heap.size + 1 + 1) 0 4 = some R' ∧ Df W S op R' (w.setRow (W.heap.size + 1 + 1) R') := by
  obtain ⟨p1, p2, -⟩ := Bx.put (w := w) (g := W.heap.size + 1 + 1) (n := 4) (t := 28) ⟨R, h.r, hR⟩ hs h1
  exact ⟨p1, p2, ⟨below_setRow h.b (by omega) _, (setRow_other _ _ _ _ (by omega)).trans h.s, (setRow_other _ _ _ _ (by omega)).trans h.o, setRow_heap w _ R _ 28 (0, 0) h.r⟩⟩
theorem Df.facts {W w : World} {a b c e : Value} {R : Array Value} {op : Opn} (h : Df W #[a, b, c, e] op R w) (ho : op.ok) :
    rowAt w W.heap.size 0 4 = some #[a, b, c, e] ∧ (w.cell? ⟨W.heap.size, 0, none⟩ = some a ∧ w.cell? ⟨W.heap.size, 2, none⟩ = some c ∧ w.cell? ⟨W.heap.size, 3, none⟩ = some e) ∧ (w.cell? ⟨W.heap.size + 1, 0, none⟩ = some (.int .i64 op.kind) ∧ w.cell? ⟨W.heap.size + 1, 1, none⟩ = some (.string op.key) ∧ w.cell? ⟨W.heap.size + 1, 2, none⟩ = some (.string op.val) ∧ w.cell? ⟨W.heap.size + 1, 3, none⟩ = some (.string op.old)) ∧
    rowAt w (W.heap.size + 1) 4 36 = some op.chg.arr ∧ w.frozen? ⟨W.heap.size, 0, none⟩ = false ∧ w.frozen? ⟨W.heap.size, 2, none⟩ = false ∧ w.frozen? ⟨W.heap.size, 3, none⟩ = false :=
  ⟨by unfold rowAt; rw [h.s]; exact cut_all _ _ rfl, ⟨cell_of_row h.s rfl, cell_of_row h.s rfl, cell_of_row h.s rfl⟩, ⟨cell_of_row h.o op.at0, cell_of_row h.o op.at1, cell_of_row h.o op.at2, cell_of_row h.o op.at3⟩, by unfold rowAt; rw [h.o]; exact Opn.cutChg ho, by simp [World.frozen?, h.s], by simp [World.frozen?, h.s], by simp [World.frozen?, h.s]⟩
theorem Df.start (w : World) (S : Array Value) (op : Opn) (Z : Array Value) : Df w S op Z (((w.alloc (.cells S 28)).alloc (.cells op.arr 44)).alloc (.cells Z 28)) := by
  have p1 : ∀ (w : World) (o : Obj) (k : Nat) (x : Obj), w.heap[k]? = some x → (w.alloc o).heap[k]? = some x := fun w o k x hx => (Below.heap_alloc w o k (Array.getElem?_eq_some_iff.1 hx).1).trans hx
  refine ⟨(((Below.refl _ _).alloc (Nat.le_refl _) _).alloc (by simp) _).alloc (by simp; omega) _, p1 _ _ _ _ (p1 _ _ _ _ (heap_alloc_new w _)), ?_, ?_⟩
  · refine p1 _ _ _ _ ?_; have := heap_alloc_new (w.alloc (.cells S 28)) (.cells op.arr 44); simpa using this
  · have := heap_alloc_new ((w.alloc (.cells S 28)).alloc (.cells op.arr 44)) (.cells Z 28); simpa using this
/-- a registry, other pairs -/
theorem StS.pairs {w w' : World} {v1 v2 v3 v4 : Value} {ps ps' : List Pr} {rs : List Rp} {ep : Int} {ms : List Mb} (h : StS w (.agg #[v1, v2, v3, v4]) ps rs ep ms) (hb : Below w.heap.size w w') {A : Option Addr} {n cap : Nat} (hp : PS w' A n ps') (hs : SlOk A n) : StS w' (.agg #[.slice A n cap, v2, v3, v4]) ps' rs ep ms := by
  obtain ⟨Ap, cp, Ar, cr, Am, cm, hv, h1, h2, h3, h4, h5, h6, h7⟩ := h.ex
  cases hv
  obtain rfl := hp.len
  exact ⟨⟨A, cap, Ar, cr, Am, cm, rfl, hp, hs, h3.below hb, h4, h5.below hb, h6, fun r hr => ⟨(h7 r hr).1.below hb, (h7 r hr).2⟩⟩⟩
/-- a registry, another configuration -/
theorem StS.members {w w' : World} {v1 v2 v3 v4 : Value} {ps : List Pr} {rs : List Rp} {ep ep' : Int} {ms ms' : List Mb} (h : StS w (.agg #[v1, v2, v3, v4]) ps rs ep ms) (hb : Below w.heap.size w w') {A : Option Addr} {n cap : Nat} (hp : MS w' A n ms') (hs : SlOk A n) : StS w' (.agg #[v1, v2, .int .i64 ep', .slice A n cap]) ps rs ep' ms' := by
  obtain ⟨Ap, cp, Ar, cr, Am, cm, hv, h1, h2, h3, h4, h5, h6, h7⟩ := h.ex
  cases hv
  obtain rfl := hp.len
  exact ⟨⟨Ap, cp, Ar, cr, A, cap, rfl, h1.below hb, h2, h3.below hb, h4, hp, hs, fun r hr => ⟨(h7 r hr).1.below hb, (h7 r hr).2⟩⟩⟩
theorem slok_nil : SlOk none 0 := ⟨fun _ => rfl, fun h => absurd h (by decide)⟩
theorem ts_nil (w : World) : TS w none 0 [] ∧ SlOk none 0 := ⟨⟨rfl, by decide, fun h => absurd h (by decide)⟩, ⟨fun _ => rfl, fun h => absurd h (by decide)⟩⟩
theorem ts_one (w : World) (b : Nat) (s : ByteArray) (t : TypeId) (h : w.heap[b]? = some (.cells #[.string s] t (0, 0))) : TS w (some ⟨b, 0, none⟩) 1 [s] ∧ SlOk (some ⟨b, 0, none⟩) 1 := by
  refine ⟨⟨rfl, by decide, fun _ => ⟨b, 0, rfl, (Array.getElem?_eq_some_iff.1 h).1, fun i hi => ?_⟩⟩, ⟨fun h => (by cases h), fun _ a h => (by cases h; rfl)⟩⟩
  obtain rfl : i = 0 := by omega
  rw [cell_of_row h rfl]; rfl
set_option maxHeartbeats 4000000 in
theorem rdoes_none (v : Value) (ps : List Pr) (rs : List Rp) (ep : Int) (ms : List Mb) (op : Opn) (k : Int) (N : Nat → Prop) (w : World) (hN : ∀ w'', Mv N w w'' → StS w'' v ps rs ep ms) (hs : SrtP ps) (ho : op.ok) (hk : op.kind = k) (hkk : k = 1 ∨ k = 3 ∨ k = 4) (hb : pairB ps op.key = false) : Calls Tryd.prog 22 #[v, .agg op.arr] w (DoesQ N ps rs ep ms op w) := by
  have h := hN w (Mv.refl _ _)
  obtain ⟨Ap, cp, Ar, cr, Am, cm, hv, hP, hSp, -⟩ := h.ex
  obtain ⟨np, hnp⟩ : ∃ n, ps.length = n := ⟨_, rfl⟩
  obtain ⟨nr, hnr⟩ : ∃ n, rs.length = n := ⟨_, rfl⟩
  obtain ⟨nm, hnm⟩ : ∃ n, ms.length = n := ⟨_, rfl⟩
  rw [hnp] at hP hSp
  rw [hnp, hnr, hnm] at hv
  subst hv
  have HB := Lib.hid hN
  clear hN
  have os := Opn.sz ho
  have oo := op.ones
  have a0 : op.arr[0]? = some (.int .i64 k) := by rw [op.at0, hk]
  have a1 := op.at1
  have D := Df.start w #[.slice Ap np cp, .slice Ar nr cr, .int .i64 ep, .slice Am nm cm] op #[.slice none 0 0, .slice none 0 0, .int .i64 0, .slice none 0 0]
  obtain ⟨w3, hw3⟩ : ∃ w3, (((w.alloc (.cells #[.slice Ap np cp, .slice Ar nr cr, .int .i64 ep, .slice Am nm cm] 28)).alloc (.cells op.arr 44)).alloc (.cells #[.slice none 0 0, .slice none 0 0, .int .i64 0, .slice none 0 0] 28)) = w3 := ⟨_, rfl⟩
  rw [hw3] at D
  have H := Lib.hid (And.intro h (And.intro hs (And.intro ho (And.intro D (And.intro hP (And.intro hSp hnp))))))
  obtain ⟨rs0, ⟨c0, c2, c3⟩, ⟨o0, o1, o2, o3⟩, oc, f0, f2, f3⟩ := D.facts H.out.2.2.1
  rw [hk] at o0
  clear h hs ho D hP hSp hnp hnr hnm
  go_enter Tryd.func22, Tryd.ntmps22
  go_wp2_with fail
  clear hw3 a0 a1 os oo
  clear rs0 c0 c2 c3 o0 o1 o2 o3 oc f0 f2 f3
  refine (place10_any _ ps rs ep ms op.key _ (H.out.1.below H.out.2.2.2.1.b)).mono ?_
  rintro e w4 ⟨⟨i, rfl, hi⟩, hb4⟩
  have hat := at_pair H.out.2.1 hi
  have D4 := H.out.2.2.2.1.below hb4
  obtain ⟨rs0, ⟨c0, c2, c3⟩, ⟨o0, o1, o2, o3⟩, oc, f0, f2, f3⟩ := D4.facts H.out.2.2.1
  rw [hk] at o0
  clear hi hb4
  rcases hat with ⟨rfl, hpb⟩ | ⟨rfl, hpb⟩
  case inr => rw [hb] at hpb; cases hpb
  obtain ⟨p1, p2, D5⟩ := D4.put (R' := #[.slice Ap np cp, .slice Ar nr cr, .int .i64 ep, .slice Am nm cm]) rfl rfl (st_ones _ _ _ _ _ _ _ _ _ _)
  have E := Lib.hid D5
  clear D5 D4
  rcases hkk with rfl | rfl | rfl
  all_goals
    go_wp2_with fail
    refine bodyPost_ret (v := .tuple #[.agg #[.slice Ap np cp, .slice Ar nr cr, .int .i64 ep, .slice Am nm cm], .int .i64 7, .slice none 0 0]) (by rw [results_cell3 Tryd.results22]; simp [go_sem, p2]) rfl ?_
    refine ⟨_, 7, none, 0, 0, ps, ep, ms, [], rfl, (fun w'' m => ⟨HB.out w'' (nb_old E.out.b m), (ts_nil _).1⟩), slok_nil, ?_, E.out.b⟩
    unfold doesP; rw [hk, hb]; simp
set_option maxHeartbeats 4000000 in
theorem rdoes_1 (v : Value) (ps : List Pr) (rs : List Rp) (ep : Int) (ms : List Mb) (op : Opn) (N : Nat → Prop) (w : World) (hN : ∀ w'', Mv N w w'' → StS w'' v ps rs ep ms) (hs : SrtP ps) (ho : op.ok) (hk : op.kind = 1) (hb : pairB ps op.key = true) : Calls Tryd.prog 22 #[v, .agg op.arr] w (DoesQ N ps rs ep ms op w) := by
  have h := hN w (Mv.refl _ _)
  obtain ⟨Ap, cp, Ar, cr, Am, cm, hv, hP, hSp, -⟩ := h.ex
  obtain ⟨np, hnp⟩ : ∃ n, ps.length = n := ⟨_, rfl⟩
  obtain ⟨nr, hnr⟩ : ∃ n, rs.length = n := ⟨_, rfl⟩
  obtain ⟨nm, hnm⟩ : ∃ n, ms.length = n := ⟨_, rfl⟩
  rw [hnp] at hP hSp
  rw [hnp, hnr, hnm] at hv
  subst hv
  have HB := Lib.hid hN
  clear hN
  have os := Opn.sz ho
  have oo := op.ones
  have a0 : op.arr[0]? = some (.int .i64 1) := by rw [op.at0, hk]
  have a1 := op.at1
  have D := Df.start w #[.slice Ap np cp, .slice Ar nr cr, .int .i64 ep, .slice Am nm cm] op #[.slice none 0 0, .slice none 0 0, .int .i64 0, .slice none 0 0]
  obtain ⟨w3, hw3⟩ : ∃ w3, (((w.alloc (.cells #[.slice Ap np cp, .slice Ar nr cr, .int .i64 ep, .slice Am nm cm] 28)).alloc (.cells op.arr 44)).alloc (.cells #[.slice none 0 0, .slice none 0 0, .int .i64 0, .slice none 0 0] 28)) = w3 := ⟨_, rfl⟩
  rw [hw3] at D
  have H := Lib.hid (And.intro h (And.intro hs (And.intro ho (And.intro D (And.intro hP (And.intro hSp hnp))))))
  obtain ⟨rs0, ⟨c0, c2, c3⟩, ⟨o0, o1, o2, o3⟩, oc, f0, f2, f3⟩ := D.facts H.out.2.2.1
  rw [hk] at o0
  clear h hs ho D hP hSp hnp hnr hnm
  go_enter Tryd.func22, Tryd.ntmps22
  go_wp2_with fail
  clear hw3 a0 a1 os oo
  clear rs0 c0 c2 c3 o0 o1 o2 o3 oc f0 f2 f3
  refine (place10_any _ ps rs ep ms op.key _ (H.out.1.below H.out.2.2.2.1.b)).mono ?_
  rintro e w4 ⟨⟨i, rfl, hi⟩, hb4⟩
  have hat := at_pair H.out.2.1 hi
  have D4 := H.out.2.2.2.1.below hb4
  obtain ⟨rs0, ⟨c0, c2, c3⟩, ⟨o0, o1, o2, o3⟩, oc, f0, f2, f3⟩ := D4.facts H.out.2.2.1
  rw [hk] at o0
  clear hi hb4
  rcases hat with ⟨rfl, hpb⟩ | ⟨rfl, hpb⟩
  case inl => rw [hb] at hpb; cases hpb
  obtain ⟨k, hkp⟩ : ∃ k, pairI ps op.key = k := ⟨_, rfl⟩
  have hlt : k < np := by rw [← hkp, ← H.out.2.2.2.2.2.2]; exact pairB_lt hb
  rw [hkp]
  have hk0 : (0 : Int) ≤ k := by omega
  have hk1 : (k : Int) < np := by omega
  obtain ⟨b, off, rfl, hbb, hrow⟩ := H.out.2.2.2.2.1.mem (by omega)
  have hx := cell_of_rowAt (hrow k hlt) 1 _ (Pr.at1 _)
  have hx4 := (cell_alike (o := off + k * 2 + 1) (D4.b.block _ hbb)).trans hx
  generalize hval : (ps.getD k default).val = val at hx hx4
  have hx4d : w4.drew.cell? ⟨b, off + k * 2 + 1, none⟩ = some (.string val) := hx4
  obtain ⟨w5, hw5⟩ : ∃ w5, (w4.drew.alloc (.cells #[.string val] 9)) = w5 := ⟨_, rfl⟩
  have D4d := D4.below (Below.refl _ _).drew
  have D5 := D4d.below (w' := w5) (by rw [← hw5]; exact (Below.refl _ _).alloc (Nat.le_refl _) _)
  obtain ⟨p1, p2, D6⟩ := D5.put (R' := #[.slice (some ⟨b, off, none⟩) np cp, .slice Ar nr cr, .int .i64 ep, .slice Am nm cm]) rfl rfl (st_ones _ _ _ _ _ _ _ _ _ _)
  obtain ⟨p3, p4, D7⟩ := D4d.put (R' := #[.slice (some ⟨b, off, none⟩) np cp, .slice Ar nr cr, .int .i64 ep, .slice Am nm cm]) rfl rfl (st_ones _ _ _ _ _ _ _ _ _ _)
  have E := Lib.hid (And.intro D6 (And.intro D7 hval))
  obtain ⟨d0, ⟨d1, -⟩, -⟩ := D4d.facts H.out.2.2.1
  obtain ⟨e0, ⟨e1, -⟩, -⟩ := D5.facts H.out.2.2.1
  obtain ⟨g0, ⟨g1, -⟩, -⟩ := D7.facts H.out.2.2.1
  have hx7 := (cell_alike (o := off + k * 2 + 1) (D7.b.block _ hbb)).trans hx
  have hx5 := (cell_alike (o := off + k * 2 + 1) (D5.b.block _ hbb)).trans hx
  have HW4 := Lib.hid D4.lt
  clear D6 D5 D7 D4 D4d hrow hbb hval
  go_wp2_with fail
  go_region
  · have hA : ((w4.drew.setRow (w.heap.size + 1 + 1) #[.slice (some ⟨b, off, none⟩) np cp, .slice Ar nr cr, .int .i64 ep, .slice Am nm cm]).alloc (.cells #[.string val] 9)).heap[w4.heap.size]? = some (.cells #[.string val] 9 (0, 0)) := by
      have := heap_alloc_new (w4.drew.setRow (w.heap.size + 1 + 1) #[.slice (some ⟨b, off, none⟩) np cp, .slice Ar nr cr, .int .i64 ep, .slice Am nm cm]) (.cells #[.string val] 9)
      simpa using this
    have DA := E.out.2.1.below ((Below.refl _ _).alloc (Nat.le_refl _) (.cells #[.string val] 9))
    have p2 : rowAt ((w4.drew.setRow (w.heap.size + 1 + 1) #[.slice (some ⟨b, off, none⟩) np cp, .slice Ar nr cr, .int .i64 ep, .slice Am nm cm]).alloc (.cells #[.string val] 9)) (w.heap.size + 1 + 1) 0 4 = some #[.slice (some ⟨b, off, none⟩) np cp, .slice Ar nr cr, .int .i64 ep, .slice Am nm cm] := by unfold rowAt; rw [DA.r]; exact cut_all _ _ rfl
    have F := Lib.hid (And.intro hA DA)
    clear hA DA
    go_wp2_with fail
    refine bodyPost_ret (v := .tuple #[.agg #[.slice (some ⟨b, off, none⟩) np cp, .slice Ar nr cr, .int .i64 ep, .slice Am nm cm], .int .i64 0, .slice (some ⟨w4.heap.size, 0, none⟩) 1 1]) (by rw [results_cell3 Tryd.results22]; simp [go_sem, p2]) rfl ?_
    refine ⟨_, 0, _, 1, 1, ps, ep, ms, [val], rfl, (fun w'' m => ⟨HB.out w'' (nb_old F.out.2.b m), (ts_one _ _ _ _ ((nb_new m (by have := HW4.out; omega) (Array.getElem?_eq_some_iff.1 F.out.1).1).trans F.out.1)).1⟩), (ts_one _ _ _ _ F.out.1).2, ?_, F.out.2.b⟩
    unfold doesP; rw [hk, hb, hkp, E.out.2.2]; simp
  · have hA : (w5.setRow (w.heap.size + 1 + 1) #[.slice (some ⟨b, off, none⟩) np cp, .slice Ar nr cr, .int .i64 ep, .slice Am nm cm]).heap[w4.heap.size]? = some (.cells #[.string val] 9 (0, 0)) := by
      rw [setRow_other _ _ _ _ (by have := E.out.2.1.lt; simp at this; omega), ← hw5]
      exact heap_alloc_new w4.drew _
    have F := Lib.hid hA
    clear hA hw5
    go_wp2_with fail
    refine bodyPost_ret (v := .tuple #[.agg #[.slice (some ⟨b, off, none⟩) np cp, .slice Ar nr cr, .int .i64 ep, .slice Am nm cm], .int .i64 0, .slice (some ⟨w4.heap.size, 0, none⟩) 1 1]) (by rw [results_cell3 Tryd.results22]; simp [go_sem, p2]) rfl ?_
    refine ⟨_, 0, _, 1, 1, ps, ep, ms, [val], rfl, (fun w'' m => ⟨HB.out w'' (nb_old E.out.1.b m), (ts_one _ _ _ _ ((nb_new m (by have := HW4.out; omega) (Array.getElem?_eq_some_iff.1 F.out).1).trans F.out)).1⟩), (ts_one _ _ _ _ F.out).2, ?_, E.out.1.b⟩
    unfold doesP; rw [hk, hb, hkp, E.out.2.2]; simp
theorem withSP_ok {x : Pr} (hx : x.ok) : ∀ (ps : List Pr) (s : List Pr × Bool), OkAllP ps → OkAllP s.1 → OkAllP (ps.foldl (withSP x) s).1 := by
  intro ps
  induction ps with
  | nil => intro s _ hs; exact hs
  | cons y t ih =>
    intro s h hs
    rw [List.foldl_cons]
    refine ih _ (fun m hm => h m (List.mem_cons_of_mem _ hm)) ?_
    have hy := h y List.mem_cons_self
    have hA : OkAllP (withAP x s y).1 := by
      unfold withAP
      split
      · intro m hm
        rcases List.mem_append.1 hm with hm | hm
        · exact hs m hm
        · rw [List.mem_singleton.1 hm]; exact hx
      · exact hs
    unfold withSP
    split
    · exact hA
    · intro m hm
      rcases List.mem_append.1 hm with hm | hm
      · exact hA m hm
      · rw [List.mem_singleton.1 hm]; exact hy
theorem withP_ok {ps : List Pr} {x : Pr} (hx : x.ok) (h : OkAllP ps) : OkAllP (withP ps x) := by
  have h1 := withSP_ok hx ps ([], false) h (fun m hm => absurd hm (by simp))
  unfold withP
  split
  · exact h1
  · intro m hm
    rcases List.mem_append.1 hm with hm | hm
    · exact h1 m hm
    · rw [List.mem_singleton.1 hm]; exact hx
theorem withSP_len {x : Pr} : ∀ (ps : List Pr) (s : List Pr × Bool), (ps.foldl (withSP x) s).1.length ≤ s.1.length + 2 * ps.length := by
  intro ps
  induction ps with
  | nil => intro s; simp
  | cons y t ih =>
    intro s
    rw [List.foldl_cons]
    have := ih (withSP x s y)
    have hA : (withAP x s y).1.length ≤ s.1.length + 1 := by
      unfold withAP
      split <;> simp
    have h2 : (withSP x s y).1.length ≤ s.1.length + 2 := by
      unfold withSP
      split
      · omega
      · simp; omega
    rw [List.length_cons]
    omega
theorem withP_len {ps : List Pr} {x : Pr} : (withP ps x).length ≤ 2 * ps.length + 1 := by
  have h1 := withSP_len (x := x) ps ([], false)
  unfold withP
  split
  · simp at h1; omega
  · rw [List.length_append]; simp at h1 ⊢; omega
/-- other pairs are put into the registry, and it is answered -/
theorem fin_pairs {N : Nat → Prop} {W w4 w6 : World} {Ap Ar Am A6 : Option Addr} {np cp nr cr nm cm m6 c6 : Nat} {ep : Int} {op : Opn} {ps L : List Pr} {rs : List Rp} {ms : List Mb} (hN : ∀ w'', Mv N W w'' → StS w'' (.agg #[.slice Ap np cp, .slice Ar nr cr, .int .i64 ep, .slice Am nm cm]) ps rs ep ms) (D4 : Df W #[.slice Ap np cp, .slice Ar nr cr, .int .i64 ep, .slice Am nm cm] op #[.slice none 0 0, .slice none 0 0, .int .i64 0, .slice none 0 0] w4) (hb : Below w4.heap.size w4 w6)
    (hown : w6.ownsRow w4.heap.size 75 2 (.slice A6 m6 c6) m6 (flatC Pr.cells L)) (hok : OkAllP L) (hm : m6 ≤ 100000) :
    Df W #[.slice Ap np cp, .slice Ar nr cr, .int .i64 ep, .slice Am nm cm] op #[.slice none 0 0, .slice none 0 0, .int .i64 0, .slice none 0 0] w6 ∧ rowAt (w6.setCell ⟨W.heap.size, 0, none⟩ (.slice A6 m6 c6)) W.heap.size 0 4 = some #[.slice A6 m6 c6, .slice Ar nr cr, .int .i64 ep, .slice Am nm cm] ∧
    putRow (w6.setCell ⟨W.heap.size, 0, none⟩ (.slice A6 m6 c6)) (W.heap.size + 1 + 1) 4 #[.slice A6 m6 c6, .slice Ar nr cr, .int .i64 ep, .slice Am nm cm] = some ((w6.setCell ⟨W.heap.size, 0, none⟩ (.slice A6 m6 c6)).setRow (W.heap.size + 1 + 1) #[.slice A6 m6 c6, .slice Ar nr cr, .int .i64 ep, .slice Am nm cm]) ∧
    rowAt ((w6.setCell ⟨W.heap.size, 0, none⟩ (.slice A6 m6 c6)).setRow (W.heap.size + 1 + 1) #[.slice A6 m6 c6, .slice Ar nr cr, .int .i64 ep, .slice Am nm cm]) (W.heap.size + 1 + 1) 0 4 = some #[.slice A6 m6 c6, .slice Ar nr cr, .int .i64 ep, .slice Am nm cm] ∧
    (∀ w'', Mv (Nb N W) ((w6.setCell ⟨W.heap.size, 0, none⟩ (.slice A6 m6 c6)).setRow (W.heap.size + 1 + 1) #[.slice A6 m6 c6, .slice Ar nr cr, .int .i64 ep, .slice Am nm cm]) w'' → StS w'' (.agg #[.slice A6 m6 c6, .slice Ar nr cr, .int .i64 ep, .slice Am nm cm]) L rs ep ms) ∧
    Below W.heap.size W ((w6.setCell ⟨W.heap.size, 0, none⟩ (.slice A6 m6 c6)).setRow (W.heap.size + 1 + 1) #[.slice A6 m6 c6, .slice Ar nr cr, .int .i64 ep, .slice Am nm cm]) := by
  have D6 := D4.below hb
  have D7 : Df W #[.slice A6 m6 c6, .slice Ar nr cr, .int .i64 ep, .slice Am nm cm] op #[.slice none 0 0, .slice none 0 0, .int .i64 0, .slice none 0 0] (w6.setCell ⟨W.heap.size, 0, none⟩ (.slice A6 m6 c6)) := D6.set 0 _
  obtain ⟨p1, p2, D8⟩ := D7.put (R' := #[.slice A6 m6 c6, .slice Ar nr cr, .int .i64 ep, .slice Am nm cm]) rfl rfl (st_ones _ _ _ _ _ _ _ _ _ _)
  have l4 := D4.lt
  have mv : Mv (fun k => k = W.heap.size ∨ k = W.heap.size + 1 + 1) w6 ((w6.setCell ⟨W.heap.size, 0, none⟩ (.slice A6 m6 c6)).setRow (W.heap.size + 1 + 1) #[.slice A6 m6 c6, .slice Ar nr cr, .int .i64 ep, .slice Am nm cm]) :=
    (Mv.setCell (fp := fun k => k = W.heap.size ∨ k = W.heap.size + 1 + 1) _ _ _ (.inl rfl)).trans (Mv.setRow (fp := fun k => k = W.heap.size ∨ k = W.heap.size + 1 + 1) _ _ _ (.inr rfl)) (fun _ _ c => c)
  have own8 := own_mv hown mv (fun g hg c => by have := (own_lt hown hg).1; rcases c with c | c <;> omega)
  refine ⟨D6, by unfold rowAt; rw [D7.s]; exact cut_all _ _ rfl, p1, p2, fun w'' m => ?_, D8.b⟩
  have own9 := nb_own m own8 (by omega)
  obtain ⟨A', c', hv, P8⟩ := PS_of_own own9 hok (by omega)
  cases hv
  obtain ⟨_, _, hv, so, -⟩ := own_shape own9
  cases hv
  exact (hN w'' (nb_old D8.b m)).pairs (Below.refl _ _) P8 so
set_option maxHeartbeats 4000000 in
theorem rdoes_2 (v : Value) (ps : List Pr) (rs : List Rp) (ep : Int) (ms : List Mb) (op : Opn) (N : Nat → Prop) (w : World) (hN : ∀ w'', Mv N w w'' → StS w'' v ps rs ep ms) (hs : SrtP ps) (ho : op.ok) (hk : op.kind = 2) (hn : ps.length ≤ 10000) : Calls Tryd.prog 22 #[v, .agg op.arr] w (DoesQ N ps rs ep ms op w) := by
  have h := hN w (Mv.refl _ _)
  obtain ⟨Ap, cp, Ar, cr, Am, cm, hv, hP, hSp, -⟩ := h.ex
  obtain ⟨np, hnp⟩ : ∃ n, ps.length = n := ⟨_, rfl⟩
  obtain ⟨nr, hnr⟩ : ∃ n, rs.length = n := ⟨_, rfl⟩
  obtain ⟨nm, hnm⟩ : ∃ n, ms.length = n := ⟨_, rfl⟩
  rw [hnp] at hP hSp
  rw [hnp, hnr, hnm] at hv
  subst hv
  have HB := Lib.hid hN
  clear hN
  have os := Opn.sz ho
  have oo := op.ones
  have a0 : op.arr[0]? = some (.int .i64 2) := by rw [op.at0, hk]
  have a1 := op.at1
  have D := Df.start w #[.slice Ap np cp, .slice Ar nr cr, .int .i64 ep, .slice Am nm cm] op #[.slice none 0 0, .slice none 0 0, .int .i64 0, .slice none 0 0]
  obtain ⟨w3, hw3⟩ : ∃ w3, (((w.alloc (.cells #[.slice Ap np cp, .slice Ar nr cr, .int .i64 ep, .slice Am nm cm] 28)).alloc (.cells op.arr 44)).alloc (.cells #[.slice none 0 0, .slice none 0 0, .int .i64 0, .slice none 0 0] 28)) = w3 := ⟨_, rfl⟩
  rw [hw3] at D
  have H := Lib.hid (And.intro h (And.intro hs (And.intro ho (And.intro D (And.intro hP (And.intro hSp hnp))))))
  obtain ⟨rs0, ⟨c0, c2, c3⟩, ⟨o0, o1, o2, o3⟩, oc, f0, f2, f3⟩ := D.facts H.out.2.2.1
  rw [hk] at o0
  clear h hs ho D hP hSp hnp hnr hnm
  go_enter Tryd.func22, Tryd.ntmps22
  go_wp2_with fail
  clear hw3 a0 a1 os oo
  clear rs0 c0 c2 c3 o0 o1 o2 o3 oc f0 f2 f3
  refine (place10_any _ ps rs ep ms op.key _ (H.out.1.below H.out.2.2.2.1.b)).mono ?_
  rintro e w4 ⟨⟨i, rfl, hi⟩, hb4⟩
  have hat := at_pair H.out.2.1 hi
  have D4 := H.out.2.2.2.1.below hb4
  obtain ⟨rs0, ⟨c0, c2, c3⟩, ⟨o0, o1, o2, o3⟩, oc, f0, f2, f3⟩ := D4.facts H.out.2.2.1
  rw [hk] at o0
  clear hi hb4
  have hat' : (∃ k : Nat, i = (k : Int) ∧ pairB ps op.key = true) ∨ (i = -1 ∧ pairB ps op.key = false) := hat.elim (fun h => .inr h) (fun h => .inl ⟨_, h⟩)
  clear hat
  have hn2 : np ≤ 10000 := by have := H.out.2.2.2.2.2.2; omega
  have hwl := withP_len (ps := ps) (x := ⟨op.key, op.val⟩)
  have G4 := Lib.hid D4
  clear D4
  rcases hat' with ⟨k, rfl, hpb⟩ | ⟨rfl, hpb⟩
  · have hk0 : (0 : Int) ≤ k := by omega
    go_wp2_with fail
    refine (with10_any Ap np cp ps ⟨op.key, op.val⟩ (show (⟨op.key, op.val⟩ : Pr).ok from ⟨H.out.2.2.1.key, H.out.2.2.1.val⟩) _ (H.out.2.2.2.2.1.below G4.out.b) hn2).mono ?_
    rintro e w6 ⟨A6, c6, rfl, hown, hb6⟩
    obtain ⟨m6, hm6⟩ : ∃ m, (withP ps ⟨op.key, op.val⟩).length = m := ⟨_, rfl⟩
    rw [hm6] at hown ⊢
    obtain ⟨D6, r7, p1, p2, S8, B8⟩ := fin_pairs HB.out G4.out hb6 hown (withP_ok (show (⟨op.key, op.val⟩ : Pr).ok from ⟨H.out.2.2.1.key, H.out.2.2.1.val⟩) H.out.2.2.2.2.1.ok) (by omega)
    clear rs0 c0 c2 c3 o0 o1 o2 o3 oc f0 f2 f3
    obtain ⟨rs0, ⟨c0, c2, c3⟩, ⟨o0, o1, o2, o3⟩, oc, f0, f2, f3⟩ := D6.facts H.out.2.2.1
    rw [hk] at o0
    have F := Lib.hid (And.intro S8 B8)
    clear D6 S8 B8 hown hb6
    go_wp2_with fail
    refine bodyPost_ret (v := .tuple #[.agg #[.slice A6 m6 c6, .slice Ar nr cr, .int .i64 ep, .slice Am nm cm], .int .i64 0, .slice none 0 0]) (by rw [results_cell3 Tryd.results22]; simp [go_sem, p2]) rfl ?_
    refine ⟨_, 0, none, 0, 0, withP ps ⟨op.key, op.val⟩, ep, ms, [], rfl, (fun w'' m => ⟨F.out.1 w'' m, (ts_nil _).1⟩), slok_nil, ?_, F.out.2⟩
    rw [withP_put H.out.2.1]; unfold doesP; rw [hk, hpb]; simp
  · by_cases hmany : 256 ≤ np
    · have hmi : (256 : Int) ≤ np := by omega
      obtain ⟨p1, p2, D5⟩ := G4.out.put (R' := #[.slice Ap np cp, .slice Ar nr cr, .int .i64 ep, .slice Am nm cm]) rfl rfl (st_ones _ _ _ _ _ _ _ _ _ _)
      have E := Lib.hid D5
      clear D5
      go_wp2_with fail
      refine bodyPost_ret (v := .tuple #[.agg #[.slice Ap np cp, .slice Ar nr cr, .int .i64 ep, .slice Am nm cm], .int .i64 11, .slice none 0 0]) (by rw [results_cell3 Tryd.results22]; simp [go_sem, p2]) rfl ?_
      refine ⟨_, 11, none, 0, 0, ps, ep, ms, [], rfl, (fun w'' m => ⟨HB.out w'' (nb_old E.out.b m), (ts_nil _).1⟩), slok_nil, ?_, E.out.b⟩
      have := H.out.2.2.2.2.2.2
      unfold doesP; rw [hk, hpb]; simp; omega
    · have hmi : (np : Int) < 256 := by omega
      go_wp2_with fail
      refine (with10_any Ap np cp ps ⟨op.key, op.val⟩ (show (⟨op.key, op.val⟩ : Pr).ok from ⟨H.out.2.2.1.key, H.out.2.2.1.val⟩) _ (H.out.2.2.2.2.1.below G4.out.b) hn2).mono ?_
      rintro e w6 ⟨A6, c6, rfl, hown, hb6⟩
      obtain ⟨m6, hm6⟩ : ∃ m, (withP ps ⟨op.key, op.val⟩).length = m := ⟨_, rfl⟩
      rw [hm6] at hown ⊢
      obtain ⟨D6, r7, p1, p2, S8, B8⟩ := fin_pairs HB.out G4.out hb6 hown (withP_ok (show (⟨op.key, op.val⟩ : Pr).ok from ⟨H.out.2.2.1.key, H.out.2.2.1.val⟩) H.out.2.2.2.2.1.ok) (by omega)
      clear rs0 c0 c2 c3 o0 o1 o2 o3 oc f0 f2 f3
      obtain ⟨rs0, ⟨c0, c2, c3⟩, ⟨o0, o1, o2, o3⟩, oc, f0, f2, f3⟩ := D6.facts H.out.2.2.1
      rw [hk] at o0
      have F := Lib.hid (And.intro S8 B8)
      clear D6 S8 B8 hown hb6
      go_wp2_with fail
      refine bodyPost_ret (v := .tuple #[.agg #[.slice A6 m6 c6, .slice Ar nr cr, .int .i64 ep, .slice Am nm cm], .int .i64 0, .slice none 0 0]) (by rw [results_cell3 Tryd.results22]; simp [go_sem, p2]) rfl ?_
      refine ⟨_, 0, none, 0, 0, withP ps ⟨op.key, op.val⟩, ep, ms, [], rfl, (fun w'' m => ⟨F.out.1 w'' m, (ts_nil _).1⟩), slok_nil, ?_, F.out.2⟩
      have := H.out.2.2.2.2.2.2
      rw [withP_put H.out.2.1]; unfold doesP; rw [hk, hpb]; simp; omega
set_option maxHeartbeats 4000000 in
theorem rdoes_3 (v : Value) (ps : List Pr) (rs : List Rp) (ep : Int) (ms : List Mb) (op : Opn) (N : Nat → Prop) (w : World) (hN : ∀ w'', Mv N w w'' → StS w'' v ps rs ep ms) (hs : SrtP ps) (ho : op.ok) (hk : op.kind = 3) (hb : pairB ps op.key = true) (hn : ps.length ≤ 10000) : Calls Tryd.prog 22 #[v, .agg op.arr] w (DoesQ N ps rs ep ms op w) := by
  have h := hN w (Mv.refl _ _)
  obtain ⟨Ap, cp, Ar, cr, Am, cm, hv, hP, hSp, -⟩ := h.ex
  obtain ⟨np, hnp⟩ : ∃ n, ps.length = n := ⟨_, rfl⟩
  obtain ⟨nr, hnr⟩ : ∃ n, rs.length = n := ⟨_, rfl⟩
  obtain ⟨nm, hnm⟩ : ∃ n, ms.length = n := ⟨_, rfl⟩
  rw [hnp] at hP hSp
  rw [hnp, hnr, hnm] at hv
  subst hv
  have HB := Lib.hid hN
  clear hN
  have os := Opn.sz ho
  have oo := op.ones
  have a0 : op.arr[0]? = some (.int .i64 3) := by rw [op.at0, hk]
  have a1 := op.at1
  have D := Df.start w #[.slice Ap np cp, .slice Ar nr cr, .int .i64 ep, .slice Am nm cm] op #[.slice none 0 0, .slice none 0 0, .int .i64 0, .slice none 0 0]
  obtain ⟨w3, hw3⟩ : ∃ w3, (((w.alloc (.cells #[.slice Ap np cp, .slice Ar nr cr, .int .i64 ep, .slice Am nm cm] 28)).alloc (.cells op.arr 44)).alloc (.cells #[.slice none 0 0, .slice none 0 0, .int .i64 0, .slice none 0 0] 28)) = w3 := ⟨_, rfl⟩
  rw [hw3] at D
  have H := Lib.hid (And.intro h (And.intro hs (And.intro ho (And.intro D (And.intro hP (And.intro hSp hnp))))))
  obtain ⟨rs0, ⟨c0, c2, c3⟩, ⟨o0, o1, o2, o3⟩, oc, f0, f2, f3⟩ := D.facts H.out.2.2.1
  rw [hk] at o0
  clear h hs ho D hP hSp hnp hnr hnm
  go_enter Tryd.func22, Tryd.ntmps22
  go_wp2_with fail
  clear hw3 a0 a1 os oo
  clear rs0 c0 c2 c3 o0 o1 o2 o3 oc f0 f2 f3
  refine (place10_any _ ps rs ep ms op.key _ (H.out.1.below H.out.2.2.2.1.b)).mono ?_
  rintro e w4 ⟨⟨i, rfl, hi⟩, hb4⟩
  have hat := at_pair H.out.2.1 hi
  have D4 := H.out.2.2.2.1.below hb4
  obtain ⟨rs0, ⟨c0, c2, c3⟩, ⟨o0, o1, o2, o3⟩, oc, f0, f2, f3⟩ := D4.facts H.out.2.2.1
  rw [hk] at o0
  clear hi hb4
  have hn2 : np ≤ 10000 := by have := H.out.2.2.2.2.2.2; omega
  have hwl : (withoutP ps op.key).length ≤ ps.length := List.length_filter_le _ _
  rcases hat with ⟨rfl, hpb⟩ | ⟨rfl, hpb⟩
  case inl => rw [hb] at hpb; cases hpb
  obtain ⟨k, hkp⟩ : ∃ k, pairI ps op.key = k := ⟨_, rfl⟩
  rw [hkp]
  have hk0 : (0 : Int) ≤ k := by omega
  have G4 := Lib.hid D4
  clear D4
  go_wp2_with fail
  refine (without10_any Ap np cp ps op.key _ (H.out.2.2.2.2.1.below G4.out.b) (by omega)).mono ?_
  rintro e w6 ⟨A6, c6, rfl, hown, hb6⟩
  obtain ⟨m6, hm6⟩ : ∃ m, (withoutP ps op.key).length = m := ⟨_, rfl⟩
  rw [hm6] at hown ⊢
  obtain ⟨D6, r7, p1, p2, S8, B8⟩ := fin_pairs HB.out G4.out hb6 hown (fun m hm => H.out.2.2.2.2.1.ok m (List.mem_filter.1 hm).1) (by omega)
  clear rs0 c0 c2 c3 o0 o1 o2 o3 oc f0 f2 f3
  obtain ⟨rs0, ⟨c0, c2, c3⟩, ⟨o0, o1, o2, o3⟩, oc, f0, f2, f3⟩ := D6.facts H.out.2.2.1
  rw [hk] at o0
  have F := Lib.hid (And.intro S8 B8)
  clear D6 S8 B8 hown hb6
  go_wp2_with fail
  refine bodyPost_ret (v := .tuple #[.agg #[.slice A6 m6 c6, .slice Ar nr cr, .int .i64 ep, .slice Am nm cm], .int .i64 0, .slice none 0 0]) (by rw [results_cell3 Tryd.results22]; simp [go_sem, p2]) rfl ?_
  refine ⟨_, 0, none, 0, 0, withoutP ps op.key, ep, ms, [], rfl, (fun w'' m => ⟨F.out.1 w'' m, (ts_nil _).1⟩), slok_nil, ?_, F.out.2⟩
  rw [withoutP_erase H.out.2.1 _ hb]; unfold doesP; rw [hk, hb]; simp
end Go.Proofs.YtfnfgnhbnffagaaDoor

/-
The document's answer: a swap.
-/
namespace Go.Proofs.YtfnfgnhbnffagaaDoor
open Go.RowKit
set_option linter.unusedVariables false
set_option linter.unusedSimpArgs false
set_option maxRecDepth 100000
set_option maxHeartbeats 8000000 in
theorem rdoes_4 (v : Value) (ps : List Pr) (rs : List Rp) (ep : Int) (ms : List Mb) (op : Opn) (N : Nat → Prop) (w : World) (hN : ∀ w'', Mv N w w'' → StS w'' v ps rs ep ms) (hs : SrtP ps) (ho : op.ok) (hk : op.kind = 4) (hb : pairB ps op.key = true) (hn : ps.length ≤ 10000) : Calls Tryd.prog 22 #[v, .agg op.arr] w (DoesQ N ps rs ep ms op w) := by
  have h := hN w (Mv.refl _ _)
  obtain ⟨Ap, cp, Ar, cr, Am, cm, hv, hP, hSp, -⟩ := h.ex
  obtain ⟨np, hnp⟩ : ∃ n, ps.length = n := ⟨_, rfl⟩
  obtain ⟨nr, hnr⟩ : ∃ n, rs.length = n := ⟨_, rfl⟩
  obtain ⟨nm, hnm⟩ : ∃ n, ms.length = n := ⟨_, rfl⟩
  rw [hnp] at hP hSp
  rw [hnp, hnr, hnm] at hv
  subst hv
  have HB := Lib.hid hN
  clear hN
  have os := Opn.sz ho
  have oo := op.ones
  have a0 : op.arr[0]? = some (.int .i64 4) := by rw [op.at0, hk]
  have a1 := op.at1
  have D := Df.start w #[.slice Ap np cp, .slice Ar nr cr, .int .i64 ep, .slice Am nm cm] op #[.slice none 0 0, .slice none 0 0, .int .i64 0, .slice none 0 0]
  obtain ⟨w3, hw3⟩ : ∃ w3, (((w.alloc (.cells #[.slice Ap np cp, .slice Ar nr cr, .int .i64 ep, .slice Am nm cm] 28)).alloc (.cells op.arr 44)).alloc (.cells #[.slice none 0 0, .slice none 0 0, .int .i64 0, .slice none 0 0] 28)) = w3 := ⟨_, rfl⟩
  rw [hw3] at D
  have H := Lib.hid (And.intro h (And.intro hs (And.intro ho (And.intro D (And.intro hP (And.intro hSp hnp))))))
  obtain ⟨rs0, ⟨c0, c2, c3⟩, ⟨o0, o1, o2, o3⟩, oc, f0, f2, f3⟩ := D.facts H.out.2.2.1
  rw [hk] at o0
  clear h hs ho D hP hSp hnp hnr hnm
  go_enter Tryd.func22, Tryd.ntmps22
  go_wp2_with fail
  clear hw3 a0 a1 os oo
  clear rs0 c0 c2 c3 o0 o1 o2 o3 oc f0 f2 f3
  refine (place10_any _ ps rs ep ms op.key _ (H.out.1.below H.out.2.2.2.1.b)).mono ?_
  rintro e w4 ⟨⟨i, rfl, hi⟩, hb4⟩
  have hat := at_pair H.out.2.1 hi
  have D4 := H.out.2.2.2.1.below hb4
  obtain ⟨rs0, ⟨c0, c2, c3⟩, ⟨o0, o1, o2, o3⟩, oc, f0, f2, f3⟩ := D4.facts H.out.2.2.1
  rw [hk] at o0
  clear hi hb4
  have hn2 : np ≤ 10000 := by have := H.out.2.2.2.2.2.2; omega
  have hwl := withP_len (ps := ps) (x := ⟨op.key, op.val⟩)
  rcases hat with ⟨rfl, hpb⟩ | ⟨rfl, hpb⟩
  case inl => rw [hb] at hpb; cases hpb
  obtain ⟨k, hkp⟩ : ∃ k, pairI ps op.key = k := ⟨_, rfl⟩
  have hlt : k < np := by rw [← hkp, ← H.out.2.2.2.2.2.2]; exact pairB_lt hb
  rw [hkp]
  have hk0 : (0 : Int) ≤ k := by omega
  have hk1 : (k : Int) < np := by omega
  obtain ⟨b, off, rfl, hbb, hrow⟩ := H.out.2.2.2.2.1.mem (by omega)
  have hx0 := cell_of_rowAt (hrow k hlt) 1 _ (Pr.at1 _)
  generalize hval : (ps.getD k default).val = val at hx0
  have hx4 := (cell_alike (o := off + k * 2 + 1) (D4.b.block _ hbb)).trans hx0
  have hx4d : w4.drew.cell? ⟨b, off + k * 2 + 1, none⟩ = some (.string val) := hx4
  have D4d := D4.below (Below.refl _ _).drew
  obtain ⟨-, ⟨d1, -⟩, ⟨-, -, -, d4⟩, -⟩ := D4d.facts H.out.2.2.1
  have G := Lib.hid D4d
  clear D4 D4d hrow
  cases hv : val.toList == op.old.toList with
  | false =>
    have HV := Lib.hid (And.intro hv hval)
    clear hval
    go_wp2_with fail
    go_region
    clear hx4 hx4d d1 d4
    clear rs0 c0 c2 c3 o0 o1 o2 o3 oc f0 f2 f3
    have G' := G.out
    clear G
    generalize w4.drew = wz at G' ⊢
    have G := Lib.hid G'
    clear G'
    obtain ⟨rs0, ⟨c0, c2, c3⟩, ⟨o0, o1, o2, o3⟩, oc, f0, f2, f3⟩ := G.out.facts H.out.2.2.1
    rw [hk] at o0
    have wz_d := G.out.below (Below.refl _ _).drew
    obtain ⟨w5, hw5⟩ : ∃ w5, (wz.drew.alloc (.cells #[.string val] 9)) = w5 := ⟨_, rfl⟩
    have D5 := wz_d.below (w' := w5) (by rw [← hw5]; exact (Below.refl _ _).alloc (Nat.le_refl _) _)
    obtain ⟨p1, p2, D6⟩ := D5.put (R' := #[.slice (some ⟨b, off, none⟩) np cp, .slice Ar nr cr, .int .i64 ep, .slice Am nm cm]) rfl rfl (st_ones _ _ _ _ _ _ _ _ _ _)
    obtain ⟨p3, p4, D7⟩ := wz_d.put (R' := #[.slice (some ⟨b, off, none⟩) np cp, .slice Ar nr cr, .int .i64 ep, .slice Am nm cm]) rfl rfl (st_ones _ _ _ _ _ _ _ _ _ _)
    clear rs0 c0 c2 c3 o0 o1 o2 o3 oc f0 f2 f3
    obtain ⟨rs0, ⟨c0, c2, c3⟩, ⟨o0, o1, o2, o3⟩, oc, f0, f2, f3⟩ := G.out.facts H.out.2.2.1
    rw [hk] at o0
    have E := Lib.hid (And.intro D6 D7)
    obtain ⟨d0, ⟨d1, -⟩, -⟩ := wz_d.facts H.out.2.2.1
    obtain ⟨e0, ⟨e1, -⟩, -⟩ := D5.facts H.out.2.2.1
    obtain ⟨g0, ⟨g1, -⟩, -⟩ := D7.facts H.out.2.2.1
    have hx7 := (cell_alike (o := off + k * 2 + 1) (D7.b.block _ hbb)).trans hx0
    have hx5 := (cell_alike (o := off + k * 2 + 1) (D5.b.block _ hbb)).trans hx0
    have hx4 := (cell_alike (o := off + k * 2 + 1) (G.out.b.block _ hbb)).trans hx0
    have hx4d : wz.drew.cell? ⟨b, off + k * 2 + 1, none⟩ = some (.string val) := hx4
    have HW4 := Lib.hid G.out.lt
    clear D6 D5 D7 wz_d
    go_wp2_with fail
    go_region
    · have hA : ((wz.drew.setRow (w.heap.size + 1 + 1) #[.slice (some ⟨b, off, none⟩) np cp, .slice Ar nr cr, .int .i64 ep, .slice Am nm cm]).alloc (.cells #[.string val] 9)).heap[wz.heap.size]? = some (.cells #[.string val] 9 (0, 0)) := by
        have := heap_alloc_new (wz.drew.setRow (w.heap.size + 1 + 1) #[.slice (some ⟨b, off, none⟩) np cp, .slice Ar nr cr, .int .i64 ep, .slice Am nm cm]) (.cells #[.string val] 9)
        simpa using this
      have DA := E.out.2.below ((Below.refl _ _).alloc (Nat.le_refl _) (.cells #[.string val] 9))
      have p2 : rowAt ((wz.drew.setRow (w.heap.size + 1 + 1) #[.slice (some ⟨b, off, none⟩) np cp, .slice Ar nr cr, .int .i64 ep, .slice Am nm cm]).alloc (.cells #[.string val] 9)) (w.heap.size + 1 + 1) 0 4 = some #[.slice (some ⟨b, off, none⟩) np cp, .slice Ar nr cr, .int .i64 ep, .slice Am nm cm] := by unfold rowAt; rw [DA.r]; exact cut_all _ _ rfl
      have F := Lib.hid (And.intro hA DA)
      clear hA DA
      go_wp2_with fail
      refine bodyPost_ret (v := .tuple #[.agg #[.slice (some ⟨b, off, none⟩) np cp, .slice Ar nr cr, .int .i64 ep, .slice Am nm cm], .int .i64 9, .slice (some ⟨wz.heap.size, 0, none⟩) 1 1]) (by rw [results_cell3 Tryd.results22]; simp [go_sem, p2]) rfl ?_
      refine ⟨_, 9, _, 1, 1, ps, ep, ms, [val], rfl, (fun w'' m => ⟨HB.out w'' (nb_old F.out.2.b m), (ts_one _ _ _ _ ((nb_new m (by have := HW4.out; omega) (Array.getElem?_eq_some_iff.1 F.out.1).1).trans F.out.1)).1⟩), (ts_one _ _ _ _ F.out.1).2, ?_, F.out.2.b⟩
      unfold doesP; rw [hk, hb, hkp, HV.out.2, HV.out.1]; simp
    · have hA : (w5.setRow (w.heap.size + 1 + 1) #[.slice (some ⟨b, off, none⟩) np cp, .slice Ar nr cr, .int .i64 ep, .slice Am nm cm]).heap[wz.heap.size]? = some (.cells #[.string val] 9 (0, 0)) := by
        rw [setRow_other _ _ _ _ (by have := G.out.lt; omega), ← hw5]
        exact heap_alloc_new wz.drew _
      have F := Lib.hid hA
      clear hA hw5
      go_wp2_with fail
      refine bodyPost_ret (v := .tuple #[.agg #[.slice (some ⟨b, off, none⟩) np cp, .slice Ar nr cr, .int .i64 ep, .slice Am nm cm], .int .i64 9, .slice (some ⟨wz.heap.size, 0, none⟩) 1 1]) (by rw [results_cell3 Tryd.results22]; simp [go_sem, p2]) rfl ?_
      refine ⟨_, 9, _, 1, 1, ps, ep, ms, [val], rfl, (fun w'' m => ⟨HB.out w'' (nb_old E.out.1.b m), (ts_one _ _ _ _ ((nb_new m (by have := HW4.out; omega) (Array.getElem?_eq_some_iff.1 F.out).1).trans F.out)).1⟩), (ts_one _ _ _ _ F.out).2, ?_, E.out.1.b⟩
      unfold doesP; rw [hk, hb, hkp, HV.out.2, HV.out.1]; simp
  | true =>
    have HV := Lib.hid (And.intro hv hval)
    clear hval
    go_wp2_with fail
    go_region
    clear hx4 hx4d d1 d4
    clear rs0 c0 c2 c3 o0 o1 o2 o3 oc f0 f2 f3
    have G' := G.out
    clear G
    generalize w4.drew = wz at G' ⊢
    have G := Lib.hid G'
    clear G'
    obtain ⟨rs0, ⟨c0, c2, c3⟩, ⟨o0, o1, o2, o3⟩, oc, f0, f2, f3⟩ := G.out.facts H.out.2.2.1
    rw [hk] at o0
    have G4 := G
    go_wp2_with fail
    refine (with10_any (some ⟨b, off, none⟩) np cp ps ⟨op.key, op.val⟩ (show (⟨op.key, op.val⟩ : Pr).ok from ⟨H.out.2.2.1.key, H.out.2.2.1.val⟩) _ (H.out.2.2.2.2.1.below G4.out.b) hn2).mono ?_
    rintro e w6 ⟨A6, c6, rfl, hown, hb6⟩
    obtain ⟨m6, hm6⟩ : ∃ m, (withP ps ⟨op.key, op.val⟩).length = m := ⟨_, rfl⟩
    rw [hm6] at hown ⊢
    obtain ⟨D6, r7, p1, p2, S8, B8⟩ := fin_pairs HB.out G4.out hb6 hown (withP_ok (show (⟨op.key, op.val⟩ : Pr).ok from ⟨H.out.2.2.1.key, H.out.2.2.1.val⟩) H.out.2.2.2.2.1.ok) (by omega)
    clear rs0 c0 c2 c3 o0 o1 o2 o3 oc f0 f2 f3
    obtain ⟨rs0, ⟨c0, c2, c3⟩, ⟨o0, o1, o2, o3⟩, oc, f0, f2, f3⟩ := D6.facts H.out.2.2.1
    rw [hk] at o0
    have F := Lib.hid (And.intro S8 B8)
    clear D6 S8 B8 hown hb6
    go_wp2_with fail
    refine bodyPost_ret (v := .tuple #[.agg #[.slice A6 m6 c6, .slice Ar nr cr, .int .i64 ep, .slice Am nm cm], .int .i64 0, .slice none 0 0]) (by rw [results_cell3 Tryd.results22]; simp [go_sem, p2]) rfl ?_
    refine ⟨_, 0, none, 0, 0, withP ps ⟨op.key, op.val⟩, ep, ms, [], rfl, (fun w'' m => ⟨F.out.1 w'' m, (ts_nil _).1⟩), slok_nil, ?_, F.out.2⟩
    have hpp := withP_put H.out.2.1 op.key op.val
    rw [hpp]; unfold doesP putP; rw [hk, hb, hkp, HV.out.2, HV.out.1]; simp
end Go.Proofs.YtfnfgnhbnffagaaDoor
