/-
A registry in memory; New; a copy that shares nothing.
-/
import Derived.Test.YtfnfgnhbnffagaaDoorZTs
import Derived.Test.YtfnfgnhbnffagaaDoorZSl
import Derived.Test.YtfnfgnhbnffagaaDoorZSrch
import Derived.Deep.RegionHeld3
import Derived.Deep.CutBlock
namespace Go.Proofs.YtfnfgnhbnffagaaDoor
open Go.RowKit
set_option linter.unusedVariables false
set_option linter.unusedSimpArgs false
set_option maxRecDepth 100000
/-- a registry that can be read -/
structure StS (w : World) (v : Value) (ps : List Pr) (rs : List Rp) (ep : Int) (ms : List Mb) : Prop where
  ex : ∃ Ap cp Ar cr Am cm, v = .agg #[.slice Ap ps.length cp, .slice Ar rs.length cr, .int .i64 ep, .slice Am ms.length cm] ∧ PS w Ap ps.length ps ∧ SlOk Ap ps.length ∧ RS w Ar rs.length rs ∧ SlOk Ar rs.length ∧ MS w Am ms.length ms ∧ SlOk Am ms.length ∧
    ∀ r ∈ rs, TS w r.A r.vals.length r.vals ∧ SlOk r.A r.vals.length
theorem StS.below {w w' : World} {v : Value} {ps : List Pr} {rs : List Rp} {ep : Int} {ms : List Mb} (h : StS w v ps rs ep ms) (hb : Below w.heap.size w w') : StS w' v ps rs ep ms := by
  obtain ⟨Ap, cp, Ar, cr, Am, cm, hv, h1, h2, h3, h4, h5, h6, h7⟩ := h.ex
  exact ⟨⟨Ap, cp, Ar, cr, Am, cm, hv, h1.below hb, h2, h3.below hb, h4, h5.below hb, h6, fun r hr => ⟨(h7 r hr).1.below hb, (h7 r hr).2⟩⟩⟩
@[go_sem ↓] theorem lv_State (a : Addr) : loadVar 28 a = ldVar 28 a := rfl
@[go_sem ↓] theorem sv_State (a : Addr) (v : Value) : storeVar 28 a v = stVar 28 a v := rfl
@[go_sem] theorem run_lv_State (w : World) (b o : Nat) : (ldVar 28 ⟨b, o, none⟩).run Tryd.prog w = match rowAt w b o 4 with | some cs => .ok (.agg cs) w | none => (ldRaw 28 ⟨b, o, none⟩).run Tryd.prog w :=
  run_ldVar w 28 b o 4 _ Tryd.underlying28 rfl (by kernel_rfl)
@[go_sem] theorem run_sv_State (w : World) (b : Nat) (cs : Array Value) : (stVar 28 ⟨b, 0, none⟩ (.agg cs)).run Tryd.prog w = match putRow w b 4 cs with | some w' => .ok () w' | none => (stRaw 28 ⟨b, 0, none⟩ (.agg cs)).run Tryd.prog w :=
  run_stVar w 28 b 4 cs (by kernel_rfl)
/-- what New answers: members of its own -/
def NewEnd (ep : Int) (ms : List Mb) (w : World) (e : Ending) (w' : World) : Prop :=
  ∃ vm, e = .returned (.agg #[.slice none 0 0, .slice none 0 0, .int .i64 ep, vm]) ∧ w'.ownsRow w.heap.size 60 34 vm ms.length (flatC Mb.cells ms) ∧ Below w.heap.size w w'
/-- a block of so many cells that may be written -/
def Bx (w : World) (g n : Nat) (t : TypeId) : Prop := ∃ c : Array Value, w.heap[g]? = some (.cells c t (0, 0)) ∧ c.size = n
theorem Bx.below {w w' : World} {g n : Nat} {t : TypeId} (h : Bx w g n t) (hb : Below w.heap.size w w') : Bx w' g n t := by
  obtain ⟨c, h1, h2⟩ := h
  exact ⟨c, (hb.block g (Array.getElem?_eq_some_iff.1 h1).1).trans h1, h2⟩
theorem Bx.drew {w : World} {g n : Nat} {t : TypeId} (h : Bx w g n t) : Bx w.drew g n t := h
theorem Bx.lt {w : World} {g n : Nat} {t : TypeId} (h : Bx w g n t) : g < w.heap.size := by
  obtain ⟨c, h1, -⟩ := h
  exact (Array.getElem?_eq_some_iff.1 h1).1
theorem Bx.put {w : World} {g n : Nat} {t : TypeId} (h : Bx w g n t) {cs : Array Value} (hs : cs.size = n) (h1 : oneCells cs = true) :
    putRow w g n cs = some (w.setRow g cs) ∧ rowAt (w.setRow g cs) g 0 n = some cs ∧ Bx (w.setRow g cs) g n t := by
  obtain ⟨c, hc, hn⟩ := h
  refine ⟨?_, ?_, ⟨cs, setRow_heap w g c cs t (0, 0) hc, hs⟩⟩
  · unfold putRow
    rw [hc]
    simp only [hn, hs, h1, and_self, if_true]
  · unfold rowAt
    rw [setRow_heap w g c cs t (0, 0) hc]
    exact cut_all cs n hs
theorem cell_setRow (w : World) (g : Nat) (cs : Array Value) (b o : Nat) (h : b ≠ g) : (w.setRow g cs).cell? ⟨b, o, none⟩ = w.cell? ⟨b, o, none⟩ := by
  unfold World.cell?
  rw [setRow_other w g b cs h]
theorem Bx.made (w : World) (c : Array Value) (t : TypeId) (n : Nat) (h : c.size = n) : Bx (w.alloc (.cells c t)) w.heap.size n t := ⟨c, heap_alloc_new w _, h⟩
theorem own_mono {w : World} {B B' : Nat} {e sz n : Nat} {v : Value} {xs : List Value} (h : w.ownsRow B' e sz v n xs) (hb : B ≤ B') : w.ownsRow B e sz v n xs :=
  ⟨h.1, h.2.imp id (fun ⟨g, x, c, h1, h2, h3⟩ => ⟨g, x, c, h1, Nat.le_trans hb h2, h3⟩)⟩
set_option maxHeartbeats 1000000 in
theorem new_any (ep : Int) (A : Option Addr) (n cap : Nat) (ms : List Mb) (w : World) (h : MS w A n ms) (ho : SlOk A n) (hb : n * 48 ≤ 140737488355328) :
    Calls Tryd.prog 44 #[.agg #[.int .i64 ep, .slice A n cap]] w (NewEnd ep ms w) := by
  obtain ⟨w2, hw2⟩ : ∃ w2, (w.alloc (.cells #[.int .i64 ep, .slice A n cap] 26)).alloc (.cells #[.slice none 0 0, .slice none 0 0, .int .i64 0, .slice none 0 0] 28) = w2 := ⟨_, rfl⟩
  have hS2 : w2.drew.cell? ⟨w.heap.size, 0, none⟩ = some (.int .i64 ep) ∧ w2.drew.cell? ⟨w.heap.size, 1, none⟩ = some (.slice A n cap) ∧ Below w.heap.size w w2.drew ∧ Bx w2.drew (w.heap.size + 1) 4 28 := by
    rw [← hw2]
    refine ⟨?_, ?_, (((Below.refl w.heap.size w).alloc (Nat.le_refl _) _).alloc (by simp) _).drew, ?_⟩
    · rw [World.cell?_drew, World.cell?_alloc_past _ _ _ (by simp), World.cell?_alloc_at _ _ _ _ rfl]; rfl
    · rw [World.cell?_drew, World.cell?_alloc_past _ _ _ (by simp), World.cell?_alloc_at _ _ _ _ rfl]; rfl
    · have := Bx.made (w.alloc (.cells #[.int .i64 ep, .slice A n cap] 26)) #[.slice none 0 0, .slice none 0 0, .int .i64 0, .slice none 0 0] 28 4 rfl
      simpa using this.drew
  have hcl : ∀ w', (w'.cell? ⟨w.heap.size, 0, none⟩ = some (.int .i64 ep) ∧ w'.cell? ⟨w.heap.size, 1, none⟩ = some (.slice A n cap) ∧ Below w.heap.size w w' ∧ Bx w' (w.heap.size + 1) 4 28) → Calls Tryd.prog 62 #[.slice A n cap] w' fun e w3 => ∃ Ac cc, e = .returned (.slice Ac n cc) ∧
      (w3.cell? ⟨w.heap.size, 0, none⟩ = some (.int .i64 ep) ∧ w3.cell? ⟨w.heap.size, 1, none⟩ = some (.slice A n cap) ∧ Below w.heap.size w w3 ∧ Bx w3 (w.heap.size + 1) 4 28) ∧
      putRow w3 (w.heap.size + 1) 4 #[.slice none 0 0, .slice none 0 0, .int .i64 ep, .slice Ac n cc] = some (w3.setRow (w.heap.size + 1) #[.slice none 0 0, .slice none 0 0, .int .i64 ep, .slice Ac n cc]) ∧
      rowAt (w3.setRow (w.heap.size + 1) #[.slice none 0 0, .slice none 0 0, .int .i64 ep, .slice Ac n cc]) (w.heap.size + 1) 0 4 = some #[.slice none 0 0, .slice none 0 0, .int .i64 ep, .slice Ac n cc] ∧
      ((w3.setRow (w.heap.size + 1) #[.slice none 0 0, .slice none 0 0, .int .i64 ep, .slice Ac n cc]).cell? ⟨w.heap.size, 0, none⟩ = some (.int .i64 ep) ∧ (w3.setRow (w.heap.size + 1) #[.slice none 0 0, .slice none 0 0, .int .i64 ep, .slice Ac n cc]).cell? ⟨w.heap.size, 1, none⟩ = some (.slice A n cap) ∧ Below w.heap.size w (w3.setRow (w.heap.size + 1) #[.slice none 0 0, .slice none 0 0, .int .i64 ep, .slice Ac n cc]) ∧ Bx (w3.setRow (w.heap.size + 1) #[.slice none 0 0, .slice none 0 0, .int .i64 ep, .slice Ac n cc]) (w.heap.size + 1) 4 28) ∧
      (w3.setRow (w.heap.size + 1) #[.slice none 0 0, .slice none 0 0, .int .i64 ep, .slice Ac n cc]).ownsRow w.heap.size 60 34 (.slice Ac n cc) ms.length (flatC Mb.cells ms) := fun w' ⟨h0, h1, h2, h3⟩ => by
    refine (cloneM A n cap ms w' (h.below h2) hb ho).mono ?_
    rintro e w3 ⟨v, rfl, o, b⟩
    obtain ⟨Ac, cc, rfl, -⟩ := MS_of_own o h.ok h.small
    have g1 := h3.lt
    have c0 := (b.cell (p := ⟨w.heap.size, 0, none⟩) (by simp; omega)).trans h0
    have c1 := (b.cell (p := ⟨w.heap.size, 1, none⟩) (by simp; omega)).trans h1
    have b3 := h2.trans (b.mono h2.size)
    have x3 := h3.below b
    obtain ⟨p1, p2, p3⟩ := x3.put (cs := #[.slice none 0 0, .slice none 0 0, .int .i64 ep, .slice Ac n cc]) rfl (by simp [oneCells, Value.oneCell'])
    refine ⟨Ac, cc, rfl, ⟨c0, c1, b3, x3⟩, p1, p2, ⟨?_, ?_, below_setRow b3 (by omega) _, p3⟩, ?_⟩
    · rw [cell_setRow _ _ _ _ _ (by omega)]; exact c0
    · rw [cell_setRow _ _ _ _ _ (by omega)]; exact c1
    · rw [h.len]
      refine ⟨o.1, o.2.imp id (fun ⟨g, x, c, h1, h2, h3, h4⟩ => ⟨g, x, c, h1, by omega, ?_, h4⟩)⟩
      rw [setRow_other _ _ _ _ (by omega)]
      exact h3
  clear h ho hb
  go_enter Tryd.func44, Tryd.ntmps44
  go_wp2_with fail
  clear hw2
  go_region_held3 (fun w' => w'.cell? ⟨w.heap.size, 0, none⟩ = some (.int .i64 ep) ∧ w'.cell? ⟨w.heap.size, 1, none⟩ = some (.slice A n cap) ∧ Below w.heap.size w w' ∧ Bx w' (w.heap.size + 1) 4 28) (assumption) (first | (go_at_call 62; refine (hcl _ (by assumption)).mono ?_; rintro e w3 ⟨Ac, cc, rfl, hS3, p1, p2, hS4, own⟩))
  go_wp2_with fail
  refine bodyPost_ret (v := .agg #[.slice none 0 0, .slice none 0 0, .int .i64 ep, .slice Ac n cc]) (by rw [results_cell1 Tryd.results44]; simp [go_sem, *]) rfl ?_
  exact ⟨_, rfl, own, hS4.2.2.1⟩
@[go_sem] theorem st_sz (a b c d : Value) : SizeIs #[a, b, c, d] 4 := rfl
@[go_sem] theorem st_ones (A1 : Option Addr) (n1 c1 : Nat) (A2 : Option Addr) (n2 c2 : Nat) (e : Int) (A3 : Option Addr) (n3 c3 : Nat) : oneCells #[.slice A1 n1 c1, .slice A2 n2 c2, .int .i64 e, .slice A3 n3 c3] = true := by simp [oneCells, Value.oneCell']
/-- two boxes of a walk: a registry that came in, and the one that is made -/
structure Cp (W : World) (O : Nat) (va vo : Array Value) (w : World) : Prop where
  lt : W.heap.size + 1 < O
  b : Below W.heap.size W w
  a : w.heap[W.heap.size]? = some (.cells va 28 (0, 0))
  z : Bx w (W.heap.size + 1) 4 28
  o : w.heap[O]? = some (.cells vo 28 (0, 0))
theorem Cp.start {W w : World} {va vo : Array Value} (hb : Below W.heap.size W w) (ha : w.heap[W.heap.size]? = some (.cells va 28 (0, 0))) (hz : Bx w (W.heap.size + 1) 4 28) : Cp W w.heap.size va vo (w.alloc (.cells vo 28)) :=
  ⟨hz.lt, hb.alloc hb.size _, (Below.heap_alloc w _ _ (Array.getElem?_eq_some_iff.1 ha).1).trans ha, hz.below ((Below.refl _ _).alloc (Nat.le_refl _) _), heap_alloc_new w _⟩
theorem Cp.olt {W w : World} {O : Nat} {va vo : Array Value} (h : Cp W O va vo w) : O < w.heap.size := (Array.getElem?_eq_some_iff.1 h.o).1
theorem Cp.below {W w w' : World} {O : Nat} {va vo : Array Value} (h : Cp W O va vo w) (hb : Below w.heap.size w w') : Cp W O va vo w' :=
  ⟨h.lt, h.b.trans (hb.mono h.b.size), (hb.block _ (by have := h.lt; have := h.olt; omega)).trans h.a, h.z.below hb, (hb.block _ h.olt).trans h.o⟩
theorem Cp.drew {W w : World} {O : Nat} {va vo : Array Value} (h : Cp W O va vo w) : Cp W O va vo w.drew := ⟨h.lt, h.b.drew, h.a, h.z, h.o⟩
theorem Cp.alloc {W w : World} {O : Nat} {va vo : Array Value} (h : Cp W O va vo w) (ob : Obj) : Cp W O va vo (w.alloc ob) := h.below ((Below.refl _ _).alloc (Nat.le_refl _) ob)
theorem Bx.of_block {w w' : World} {g n : Nat} {t : TypeId} (h : Bx w g n t) (e : w'.heap[g]? = w.heap[g]?) : Bx w' g n t := by
  obtain ⟨c, h1, h2⟩ := h
  exact ⟨c, e.trans h1, h2⟩
theorem Cp.set {W w : World} {O : Nat} {va vo : Array Value} (h : Cp W O va vo w) (i : Nat) (v : Value) : Cp W O va (vo.setIfInBounds i v) (w.setCell ⟨O, i, none⟩ v) :=
  ⟨h.lt, by rw [setCell_eq_setRow w _ i vo 28 (0, 0) v h.o]; exact below_setRow h.b (by have := h.lt; omega) _, by rw [heap_setCell_other _ _ _ _ (by have := h.lt; simp; omega)]; exact h.a, h.z.of_block (heap_setCell_other _ _ _ _ (by have := h.lt; simp; omega)), heap_setCell_same w _ i vo 28 v h.o⟩
theorem Cp.ca {W w : World} {O : Nat} {va vo : Array Value} (h : Cp W O va vo w) (i : Nat) {v : Value} (hv : va[i]? = some v) : w.cell? ⟨W.heap.size, i, none⟩ = some v := by
  rw [cell_of_row w _ i va 28 (0, 0) h.a, hv]
theorem Cp.co {W w : World} {O : Nat} {va vo : Array Value} (h : Cp W O va vo w) (i : Nat) {v : Value} (hv : vo[i]? = some v) : w.cell? ⟨O, i, none⟩ = some v := by
  rw [cell_of_row w _ i vo 28 (0, 0) h.o, hv]
theorem Cp.fo {W w : World} {O : Nat} {va vo : Array Value} (h : Cp W O va vo w) (i : Nat) : w.frozen? ⟨O, i, none⟩ = false := by
  simp [World.frozen?, h.o]
theorem Cp.row {W w : World} {O : Nat} {va vo : Array Value} (h : Cp W O va vo w) (hs : vo.size = 4) : rowAt w O 0 4 = some vo := by
  unfold rowAt
  rw [h.o]
  exact cut_all _ _ hs
end Go.Proofs.YtfnfgnhbnffagaaDoor

/-
A registry of one's own in memory: its rows, apart from one another.
-/
namespace Go.Proofs.YtfnfgnhbnffagaaDoor
open Go.RowKit
set_option linter.unusedVariables false
set_option linter.unusedSimpArgs false
set_option maxRecDepth 100000
/-- only these blocks may have turned, and new ones are there -/
structure Mv (fp : Nat → Prop) (w w' : World) : Prop where
  os : w'.os = w.os
  tape : w'.tape = w.tape
  output : w'.output = w.output
  size : w.heap.size ≤ w'.heap.size
  block : ∀ i, i < w.heap.size → ¬ fp i → w'.heap[i]? = w.heap[i]?
theorem Mv.refl (fp : Nat → Prop) (w : World) : Mv fp w w := ⟨rfl, rfl, rfl, Nat.le_refl _, fun _ _ _ => rfl⟩
theorem Mv.mono {fp fq : Nat → Prop} {w w' : World} (h : Mv fp w w') (hs : ∀ i, i < w.heap.size → fp i → fq i) : Mv fq w w' := ⟨h.os, h.tape, h.output, h.size, fun i hi hf => h.block i hi (fun c => hf (hs i hi c))⟩
theorem Mv.trans {fp : Nat → Prop} {w w1 w2 : World} (h : Mv fp w w1) {fq : Nat → Prop} (k : Mv fq w1 w2) (hs : ∀ i, i < w.heap.size → fq i → fp i) : Mv fp w w2 :=
  ⟨k.os.trans h.os, k.tape.trans h.tape, k.output.trans h.output, Nat.le_trans h.size k.size, fun i hi hf => (k.block i (Nat.lt_of_lt_of_le hi h.size) (fun c => hf (hs i hi c))).trans (h.block i hi hf)⟩
theorem Mv.below {fp : Nat → Prop} {w w' : World} {B : Nat} (h : Mv fp w w') (hB : B ≤ w.heap.size) (hf : ∀ i, fp i → B ≤ i) : Below B w w' :=
  ⟨h.os, h.tape, h.output, h.size, fun k hk => h.block k (Nat.lt_of_lt_of_le hk hB) (fun c => by have := hf k c; omega)⟩
theorem Mv.of_below {fp : Nat → Prop} {w w' : World} (h : Below w.heap.size w w') : Mv fp w w' := ⟨h.os, h.tape, h.output, h.size, fun k hk _ => h.block k hk⟩
theorem Mv.of_grown {fp : Nat → Prop} {w w' : World} {row : Option Nat} (h : w.grownBy w' row) (hf : ∀ k, row = some k → fp k) : Mv fp w w' :=
  ⟨h.os, h.tape, h.output, h.size, fun k hk hn => h.block k hk (fun e => hn (hf k e.symm))⟩
theorem Mv.setCell {fp : Nat → Prop} (w : World) (a : Addr) (v : Value) (hf : fp a.block) : Mv fp w (w.setCell a v) :=
  ⟨rfl, rfl, rfl, by simp [World.setCell], fun k hk hn => Below.heap_setCell _ _ _ _ (fun e => hn (e ▸ hf))⟩
theorem Mv.setRow {fp : Nat → Prop} (w : World) (g : Nat) (c : Array Value) (hf : fp g) : Mv fp w (w.setRow g c) :=
  ⟨rfl, rfl, rfl, by simp, fun k hk hn => setRow_other _ _ _ _ (fun e => hn (e ▸ hf))⟩
theorem Mv.alloc {fp : Nat → Prop} (w : World) (o : Obj) : Mv fp w (w.alloc o) := Mv.of_below ((Below.refl _ _).alloc (Nat.le_refl _) o)
theorem own_mv {fp : Nat → Prop} {w w' : World} {B : Nat} {e sz n : Nat} {v : Value} {xs : List Value} (h : w.ownsRow B e sz v n xs) (m : Mv fp w w') (hf : ∀ g, v.ownBlock = some g → ¬ fp g) : w'.ownsRow B e sz v n xs := by
  obtain ⟨h1, h2⟩ := h
  refine ⟨h1, ?_⟩
  rcases h2 with h2 | ⟨g, cap, cur, hv, hg, hh, r⟩
  · exact .inl h2
  · exact .inr ⟨g, cap, cur, hv, hg, (m.block g (Array.getElem?_eq_some_iff.1 hh).1 (hf g (by rw [hv]; rfl))).trans hh, r⟩
theorem own_lt {w : World} {B : Nat} {e sz n : Nat} {v : Value} {xs : List Value} (h : w.ownsRow B e sz v n xs) {k : Nat} (hk : v.ownBlock = some k) : B ≤ k ∧ k < w.heap.size := by
  rcases h.2 with ⟨rfl, -⟩ | ⟨g', cap, cur, rfl, hB', hh, -⟩
  · cases hk
  · simp [Value.ownBlock] at hk; subst hk; exact ⟨hB', (Array.getElem?_eq_some_iff.1 hh).1⟩
theorem own_shape {w : World} {B : Nat} {e sz n : Nat} {v : Value} {xs : List Value} (h : w.ownsRow B e sz v n xs) : ∃ A cap, v = .slice A n cap ∧ SlOk A n ∧ (∀ b o sp, A = some ⟨b, o, sp⟩ → v.ownBlock = some b ∧ o = 0 ∧ sp = none) := by
  rcases h.2 with ⟨rfl, rfl⟩ | ⟨g, cap, cur, rfl, hB, hh, r⟩
  · exact ⟨none, 0, rfl, ⟨fun _ => rfl, fun _ a h => (by cases h)⟩, fun b o sp h => (by cases h)⟩
  · exact ⟨_, cap, rfl, ⟨fun h => (by cases h), fun _ a h => by cases h; rfl⟩, fun b o sp h => by cases h; exact ⟨rfl, rfl, rfl⟩⟩
/-- a registry of one's own: O is the box of its four slots -/
structure OwnS (B O : Nat) (w : World) (vp vr vm : Value) (ps : List Pr) (rs : List Rp) (ms : List Mb) : Prop where
  p : w.ownsRow B 75 2 vp ps.length (flatC Pr.cells ps)
  r : w.ownsRow B 49 4 vr rs.length (flatC Rp.cells rs)
  m : w.ownsRow B 60 34 vm ms.length (flatC Mb.cells ms)
  t : ∀ x ∈ rs, OT w B x.v x.vals
  okp : OkAllP ps
  okr : OkAllR rs
  okm : OkAll ms
  ap : ∀ k, vp.ownBlock = some k → k ≠ O ∧ vr.ownBlock ≠ some k ∧ vm.ownBlock ≠ some k ∧ ∀ x ∈ rs, x.v.ownBlock ≠ some k
  ar : ∀ k, vr.ownBlock = some k → k ≠ O ∧ vm.ownBlock ≠ some k ∧ ∀ x ∈ rs, x.v.ownBlock ≠ some k
  am : vm.ownBlock ≠ some O
  at_ : ∀ x ∈ rs, x.v.ownBlock ≠ some O
theorem OwnS.mv {B O : Nat} {fp : Nat → Prop} {w w' : World} {vp vr vm : Value} {ps : List Pr} {rs : List Rp} {ms : List Mb} (h : OwnS B O w vp vr vm ps rs ms) (m : Mv fp w w')
    (h1 : ∀ g, vp.ownBlock = some g → ¬ fp g) (h2 : ∀ g, vr.ownBlock = some g → ¬ fp g) (h3 : ∀ g, vm.ownBlock = some g → ¬ fp g) (h4 : ∀ x ∈ rs, ∀ g, x.v.ownBlock = some g → ¬ fp g) : OwnS B O w' vp vr vm ps rs ms :=
  ⟨own_mv h.p m h1, own_mv h.r m h2, own_mv h.m m h3, fun x hx => own_mv (h.t x hx) m (h4 x hx), h.okp, h.okr, h.okm, h.ap, h.ar, h.am, h.at_⟩
theorem OwnS.below {B O : Nat} {w w' : World} {vp vr vm : Value} {ps : List Pr} {rs : List Rp} {ms : List Mb} (h : OwnS B O w vp vr vm ps rs ms) (hb : Below w.heap.size w w') : OwnS B O w' vp vr vm ps rs ms :=
  h.mv (Mv.of_below (fp := fun _ => False) hb) (fun _ _ c => c) (fun _ _ c => c) (fun _ _ c => c) (fun _ _ _ _ c => c)
theorem OwnS.setO {B O : Nat} {w : World} {vp vr vm : Value} {ps : List Pr} {rs : List Rp} {ms : List Mb} (h : OwnS B O w vp vr vm ps rs ms) (i : Nat) (v : Value) : OwnS B O (w.setCell ⟨O, i, none⟩ v) vp vr vm ps rs ms :=
  h.mv (Mv.setCell (fp := (· = O)) w ⟨O, i, none⟩ v rfl) (fun g hg c => (h.ap g hg).1 c) (fun g hg c => (h.ar g hg).1 c) (fun g hg c => h.am (c ▸ hg)) (fun x hx g hg c => h.at_ x hx (c ▸ hg))
theorem OwnS.base {B B' O : Nat} {w : World} {vp vr vm : Value} {ps : List Pr} {rs : List Rp} {ms : List Mb} (h : OwnS B O w vp vr vm ps rs ms) (hb : B' ≤ B) : OwnS B' O w vp vr vm ps rs ms :=
  ⟨own_mono h.p hb, own_mono h.r hb, own_mono h.m hb, fun x hx => own_mono (h.t x hx) hb, h.okp, h.okr, h.okm, h.ap, h.ar, h.am, h.at_⟩
/-- the box may be any block that isn't one of its rows -/
theorem OwnS.box {B O O' : Nat} {w : World} {vp vr vm : Value} {ps : List Pr} {rs : List Rp} {ms : List Mb} (h : OwnS B O w vp vr vm ps rs ms) (ho : O' < B ∨ w.heap.size ≤ O') : OwnS B O' w vp vr vm ps rs ms :=
  ⟨h.p, h.r, h.m, h.t, h.okp, h.okr, h.okm, fun k hk => ⟨by have := own_lt h.p hk; omega, (h.ap k hk).2⟩, fun k hk => ⟨by have := own_lt h.r hk; omega, (h.ar k hk).2⟩, fun e => by have := own_lt h.m e; omega, fun x hx e => by have := own_lt (h.t x hx) e; omega⟩
/-- it can be read -/
theorem OwnS.sts {B O : Nat} {w : World} {vp vr vm : Value} {ps : List Pr} {rs : List Rp} {ms : List Mb} (h : OwnS B O w vp vr vm ps rs ms) (ep : Int) (hp : ps.length ≤ 140737488355328) (hr : rs.length ≤ 140737488355328) (hm : ms.length ≤ 140737488355328) :
    StS w (.agg #[vp, vr, .int .i64 ep, vm]) ps rs ep ms := by
  obtain ⟨Ap, cp, hvp, sp, -⟩ := own_shape h.p
  obtain ⟨Ar, cr, hvr, sr, -⟩ := own_shape h.r
  obtain ⟨Am, cm, hvm, sm, -⟩ := own_shape h.m
  obtain ⟨_, _, e1, P⟩ := PS_of_own h.p h.okp hp
  obtain ⟨_, _, e2, R⟩ := RS_of_own h.r h.okr hr
  obtain ⟨_, _, e3, M⟩ := MS_of_own h.m h.okm hm
  rw [hvp] at e1; cases e1
  rw [hvr] at e2; cases e2
  rw [hvm] at e3; cases e3
  refine ⟨⟨Ap, cp, Ar, cr, Am, cm, by rw [hvp, hvr, hvm], P, sp, R, sr, M, sm, fun x hx => ?_⟩⟩
  obtain ⟨A, c, e, T, s⟩ := (h.t x hx).ts (h.okr x hx).l
  unfold Rp.v at e
  cases e
  exact ⟨T, s⟩
/-- replies as one tells them -/
def Rp.d (x : Rp) : Int × Int × Int × List ByteArray := (x.client, x.num, x.code, x.vals)
/-- a reply is put behind the others -/
theorem rep_push {w : World} {B : Nat} {vr : Value} {rs : List Rp} (ty : TypeId) (h : w.ownsRow B 49 4 vr rs.length (flatC Rp.cells rs)) (x : Rp) (hn : rs.length ≤ 100000) (hB : B ≤ w.heap.size) :
    ∃ v' w', (apRow #[23, 23] ty #[vr, .slice (some ⟨w.heap.size, 0, none⟩) 1 1]).run Tryd.prog (w.alloc (.cells x.arr 49)) = .ok v' w' ∧ w'.ownsRow B 49 4 v' (rs.length + 1) (flatC Rp.cells (rs ++ [x])) ∧
      Mv (fun k => vr.ownBlock = some k) w w' ∧ (v'.ownBlock = vr.ownBlock ∨ v'.ownBlock = some (w.heap.size + 1)) := by
  obtain ⟨i0, hi, hz0, hz1, hz2⟩ := info_parts infoMR
  obtain ⟨v', w', h1, h2, h3, -, h5⟩ := run_append_own_at (P := Tryd.prog) (w.alloc (.cells x.arr 49)) B 23 ty 49 i0 (.agg Rp.zero.arr) 4 48 Tryd.underlying23 hi hz0 hz1 hz2 rfl (by decide) vr rs.length (flatC Rp.cells rs) (World.ownsRow.alloc h _) ⟨w.heap.size, 0, none⟩ 1 1 x.cells rfl
    (fun j u hu => by rw [Addr.add_mid, Nat.zero_add, World.cell?_alloc_at _ _ _ _ rfl]; simpa [Rp.arr] using hu) (cells_onesR x) (by simp only [maxLen]; omega) (by omega) (by simp; omega)
  refine ⟨v', w', h1, ?_, (Mv.alloc w _).trans (Mv.of_grown (fp := fun k => vr.ownBlock = some k) h3 (fun k hk => hk)) (fun i _ c => c), by simpa using h5⟩
  rw [flatC_append, flatC_one]
  exact h2
/-- and stays apart -/
theorem OwnS.push {B O : Nat} {w w' : World} {vp vr vr' vm : Value} {ps : List Pr} {rs : List Rp} {ms : List Mb} (h : OwnS B O w vp vr vm ps rs ms) {x : Rp} (hx : x.ok) (hO : O < w.heap.size)
    (ht : OT w B x.v x.vals) (hxb : ∀ k, x.v.ownBlock = some k → k ≠ O ∧ vp.ownBlock ≠ some k ∧ vr.ownBlock ≠ some k)
    (ho : w'.ownsRow B 49 4 vr' (rs.length + 1) (flatC Rp.cells (rs ++ [x]))) (m : Mv (fun k => vr.ownBlock = some k) w w') (hb : vr'.ownBlock = vr.ownBlock ∨ ∃ g, vr'.ownBlock = some g ∧ w.heap.size ≤ g) : OwnS B O w' vp vr' vm ps (rs ++ [x]) ms := by
  have hr : ∀ k, vr'.ownBlock = some k → vr.ownBlock = some k ∨ w.heap.size ≤ k := fun k hk => by
    rcases hb with hb | ⟨g, hb, hg⟩
    · exact .inl (hb ▸ hk)
    · rw [hk] at hb; cases hb; exact .inr hg
  refine ⟨own_mv h.p m (fun g hg c => (h.ap g hg).2.1 c), by rw [List.length_append]; exact ho, own_mv h.m m (fun g hg c => (h.ar g c).2.1 hg), fun y hy => ?_, h.okp, fun y hy => ?_, h.okm, fun k hk => ⟨(h.ap k hk).1, fun c => ?_, (h.ap k hk).2.2.1, fun y hy => ?_⟩, fun k hk => ⟨?_, ?_, fun y hy => ?_⟩, h.am, fun y hy => ?_⟩
  · rcases List.mem_append.1 hy with hy | hy
    · exact own_mv (h.t y hy) m (fun g hg c => (h.ar g c).2.2 y hy hg)
    · rw [List.mem_singleton] at hy; subst hy
      exact own_mv ht m (fun g hg c => (hxb g hg).2.2 c)
  · rcases List.mem_append.1 hy with hy | hy
    · exact h.okr y hy
    · rw [List.mem_singleton] at hy; subst hy; exact hx
  · rcases hr k c with c | c
    · exact (h.ap k hk).2.1 c
    · have := (own_lt h.p hk).2; omega
  · rcases List.mem_append.1 hy with hy | hy
    · exact (h.ap k hk).2.2.2 y hy
    · rw [List.mem_singleton] at hy; subst hy
      exact fun c => (hxb k c).2.1 hk
  · rcases hr k hk with c | c
    · exact (h.ar k c).1
    · omega
  · rcases hr k hk with c | c
    · exact (h.ar k c).2.1
    · intro e; have := (own_lt h.m e).2; omega
  · rcases List.mem_append.1 hy with hy | hy
    · rcases hr k hk with c | c
      · exact (h.ar k c).2.2 y hy
      · intro e; have := (own_lt (h.t y hy) e).2; omega
    · rw [List.mem_singleton] at hy; subst hy
      intro e
      rcases hr k hk with c | c
      · exact (hxb k e).2.2 c
      · have := (own_lt ht e).2; omega
  · rcases List.mem_append.1 hy with hy | hy
    · exact h.at_ y hy
    · rw [List.mem_singleton] at hy; subst hy
      exact fun c => (hxb O c).1 rfl
end Go.Proofs.YtfnfgnhbnffagaaDoor

/-
A copy of a registry shares nothing.
-/
namespace Go.Proofs.YtfnfgnhbnffagaaDoor
open Go.RowKit
set_option linter.unusedVariables false
set_option linter.unusedSimpArgs false
set_option maxRecDepth 100000
@[go_sem ↓] theorem ap_MR' (ty : TypeId) (args : Array Value) : Builtin.append_ #[23, 23] ty args = apRow #[23, 23] ty args := rfl
@[go_sem] theorem rp_ones4 (a b c : Int) (A : Option Addr) (n q : Nat) : oneCells #[.int .i64 a, .int .i64 b, .int .i64 c, .slice A n q] = true := by simp [oneCells, Value.oneCell']
theorem Cp.mv {fp : Nat → Prop} {W w w' : World} {O : Nat} {va vo : Array Value} (h : Cp W O va vo w) (m : Mv fp w w') (hf : ∀ i, fp i → W.heap.size + 1 < i ∧ i ≠ O) : Cp W O va vo w' :=
  ⟨h.lt, h.b.trans (m.below h.b.size (fun i hi => by have := (hf i hi).1; omega)), (m.block _ (by have := h.lt; have := h.olt; omega) (fun c => by have := (hf _ c).1; omega)).trans h.a, h.z.of_block (m.block _ h.z.lt (fun c => by have := (hf _ c).1; omega)), (m.block _ h.olt (fun c => (hf _ c).2 rfl)).trans h.o⟩
/-- what a copy is -/
def CopEnd (ps : List Pr) (rs : List Rp) (ep : Int) (ms : List Mb) (w : World) (e : Ending) (w' : World) : Prop :=
  ∃ vp vr vm rs' O, e = .returned (.agg #[vp, vr, .int .i64 ep, vm]) ∧ OwnS w.heap.size O w' vp vr vm ps rs' ms ∧ rs'.map Rp.d = rs.map Rp.d ∧ Below w.heap.size w w'
set_option maxHeartbeats 4000000 in
theorem copied_any (v : Value) (ps : List Pr) (rs : List Rp) (ep : Int) (ms : List Mb) (w : World) (h : StS w v ps rs ep ms) (hm : ms.length ≤ 100000) (hp : ps.length ≤ 100000) (hr : rs.length ≤ 100000) : Calls Tryd.prog 25 #[v] w (CopEnd ps rs ep ms w) := by
  obtain ⟨Ap, cp, Ar, cr, Am, cm, rfl, h1, h2, h3, h4, h5, h6, h7⟩ := h.ex
  have hc : rowAt (w.alloc (.cells #[.slice Ap ps.length cp, .slice Ar rs.length cr, .int .i64 ep, .slice Am ms.length cm] 28)) w.heap.size 2 2 = some #[.int .i64 ep, .slice Am ms.length cm] := by
    rw [rowAt_alloc_at _ _ _ _ _ _ rfl]; rfl
  have hB : Below w.heap.size w ((w.alloc (.cells #[.slice Ap ps.length cp, .slice Ar rs.length cr, .int .i64 ep, .slice Am ms.length cm] 28)).alloc (.cells #[.slice none 0 0, .slice none 0 0, .int .i64 0, .slice none 0 0] 28)) := ((Below.refl _ _).alloc (Nat.le_refl _) _).alloc (by simp) _
  have hA : ((w.alloc (.cells #[.slice Ap ps.length cp, .slice Ar rs.length cr, .int .i64 ep, .slice Am ms.length cm] 28)).alloc (.cells #[.slice none 0 0, .slice none 0 0, .int .i64 0, .slice none 0 0] 28)).heap[w.heap.size]? = some (.cells #[.slice Ap ps.length cp, .slice Ar rs.length cr, .int .i64 ep, .slice Am ms.length cm] 28 (0, 0)) := by
    rw [Below.heap_alloc _ _ _ (by simp)]; exact heap_alloc_new w _
  have hr0 : (rs.length : Int) ≤ 100000 := by omega
  obtain ⟨np, hnp⟩ : ∃ n, ps.length = n := ⟨_, rfl⟩
  obtain ⟨nr, hnr⟩ : ∃ n, rs.length = n := ⟨_, rfl⟩
  obtain ⟨nm, hnm⟩ : ∃ n, ms.length = n := ⟨_, rfl⟩
  rw [hnp] at h1 h2 hp
  rw [hnr] at h3 h4 hr hr0
  rw [hnm] at h5 h6 hm
  rw [hnp, hnr, hnm] at hc hB hA
  rw [hnp, hnr, hnm]
  have HN := Lib.hid (And.intro hnp (And.intro hnr hnm))
  clear h hnp hnr hnm
  have hZ : Bx ((w.alloc (.cells #[.slice Ap np cp, .slice Ar nr cr, .int .i64 ep, .slice Am nm cm] 28)).alloc (.cells #[.slice none 0 0, .slice none 0 0, .int .i64 0, .slice none 0 0] 28)) (w.heap.size + 1) 4 28 := by
    have := Bx.made (w.alloc (.cells #[.slice Ap np cp, .slice Ar nr cr, .int .i64 ep, .slice Am nm cm] 28)) #[.slice none 0 0, .slice none 0 0, .int .i64 0, .slice none 0 0] 28 4 rfl
    simpa using this
  go_enter Tryd.func25, Tryd.ntmps25
  go_wp2_with fail
  refine (new_any ep Am nm cm ms _ (h5.below hB) h6 (by omega)).mono ?_
  rintro e w3 ⟨vm, rfl, own, hb3⟩
  rw [HN.out.2.2] at own
  obtain ⟨Ac, cc, rfl, -⟩ := MS_of_own own h5.ok h5.small
  have S3 := Cp.start (vo := #[.slice none 0 0, .slice none 0 0, .int .i64 ep, .slice Ac nm cc]) (hB.trans (hb3.mono hB.size)) ((hb3.block _ (by simp; omega)).trans hA) (hZ.below hb3)
  have hA3 := (hb3.block _ (by simp; omega)).trans hA
  have l3 : w.heap.size < w3.heap.size := (Array.getElem?_eq_some_iff.1 hA3).1
  have a30 : w3.cell? ⟨w.heap.size, 0, none⟩ = some (.slice Ap np cp) := by rw [cell_of_row _ _ _ _ _ _ hA3]; rfl
  have O3 : OwnS (w.heap.size + 1 + 1) w3.heap.size (w3.alloc (.cells #[.slice none 0 0, .slice none 0 0, .int .i64 ep, .slice Ac nm cc] 28)) (.slice none 0 0) (.slice none 0 0) (.slice Ac nm cc) [] [] ms :=
    ⟨World.ownsRow_nil _ _ _ _, World.ownsRow_nil _ _ _ _, by rw [HN.out.2.2]; exact own_mv (own_mono own (by simp)) (Mv.alloc (fp := fun _ => False) _ _) (fun _ _ c => c), (by simp), (by intro x hx; cases hx), (by intro x hx; cases hx), h5.ok, (by intro k hk; cases hk), (by intro k hk; cases hk), (fun e => by have := (own_lt own e).2; omega), (by simp)⟩
  clear own hA hB hA3 hb3 hZ
  go_wp2_with fail
  refine (cloneP Ap np cp ps _ (h1.below S3.b) (by omega) h2).mono ?_
  rintro e w4 ⟨vp, rfl, ownp, hb4⟩
  have S4 := S3.below hb4
  obtain ⟨Aq, cq, rfl, -⟩ := PS_of_own ownp h1.ok h1.small
  have f40 := S4.fo 0
  have c40 : w4.cell? ⟨w3.heap.size, 0, none⟩ = some (.slice none 0 0) := S4.co 0 rfl
  have S5 := S4.set 0 (.slice Aq np cq)
  have a41 : w4.cell? ⟨w.heap.size, 1, none⟩ = some (.slice Ar nr cr) := S4.ca 1 rfl
  have O4 := O3.below hb4
  have O5 : OwnS (w.heap.size + 1 + 1) w3.heap.size (w4.setCell ⟨w3.heap.size, 0, none⟩ (.slice Aq np cq)) (.slice Aq np cq) (.slice none 0 0) (.slice Ac nm cc) ps [] ms := by
    have hk : ∀ k, (Value.slice Aq np cq).ownBlock = some k → w3.heap.size < k := fun k hk => by have := (own_lt ownp hk).1; simp at this; omega
    refine ⟨by rw [HN.out.1]; exact own_mv (own_mono ownp (by simp; omega)) (Mv.setCell (fp := (· = w3.heap.size)) _ _ _ rfl) (fun k h c => by have := hk k h; omega), World.ownsRow_nil _ _ _ _, (O4.setO 0 _).m, (by simp), h1.ok, (by intro x hx; cases hx), h5.ok, fun k h => ⟨by have := hk k h; omega, by simp [Value.ownBlock], fun e => ?_, (by simp)⟩, (by intro k hk; cases hk), O4.am, (by simp)⟩
    have h8 := (own_lt O3.m e).2
    have h9 := (own_lt ownp h).1
    omega
  have HA := Lib.hid h1
  have HS := Lib.hid (And.intro S5 O5)
  have HO := Lib.hid (And.intro h3 (And.intro h7 (And.intro h4 h5.ok)))
  clear S3 O3 S4 O4 S5 O5 h1 h2 h3 h4 h5 h6 h7 ownp hb4 a30 hc hm hp hr HA
  go_wp2_with fail
  clear a41 c40 f40
  go_loopw [16] (fun t wr => ∃ k : Nat, k ≤ nr ∧ t = .int .i64 k ∧ ∃ Ax cx R, Cp w w3.heap.size #[.slice Ap np cp, .slice Ar nr cr, .int .i64 ep, .slice Am nm cm] #[.slice Aq np cq, .slice Ax k cx, .int .i64 ep, .slice Ac nm cc] wr ∧ R.length = k ∧
    OwnS (w.heap.size + 1 + 1) w3.heap.size wr (.slice Aq np cq) (.slice Ax k cx) (.slice Ac nm cc) ps R ms ∧ R.map Rp.d = (rs.take k).map Rp.d) (fun t _ => nr - (intOf t).toNat)
  case atStart => exact ⟨0, Nat.zero_le _, rfl, none, 0, [], HS.out.1, rfl, HS.out.2, rfl⟩
  case round =>
    obtain ⟨k, hk, rfl, Ax, cx, R, S, hl, OW, hd⟩ := hrel
    have hk0 : (0 : Int) ≤ k := by omega
    by_cases hlt : k < nr
    · have hk1 : (k : Int) < nr := by omega
      obtain ⟨b, off, rfl, hb, hel⟩ := HO.out.1.mem (by omega)
      have hr := (rowAt_below S.b hb _ _).trans (hel k hlt)
      have hok := HO.out.1.okAt hlt
      have hin : rs.getD k default ∈ rs := by
        have := HN.out.2.1
        rw [List.getD_eq_getElem?_getD, List.getElem?_eq_getElem (by omega)]
        exact List.getElem_mem _
      obtain ⟨ht, hs⟩ := HO.out.2.1 _ hin
      have htk : (rs.take (k + 1)).map Rp.d = (rs.take k).map Rp.d ++ [(rs.getD k default).d] := by
        have := HN.out.2.1
        rw [List.take_succ_eq_append_getElem (by omega), List.map_append, List.getD_eq_getElem?_getD, List.getElem?_eq_getElem (by omega)]; rfl
      generalize rs.getD k default = r at hr hok ht hs htk
      obtain ⟨rc, rn, re, rA, rq, vals⟩ := r
      obtain ⟨q, hq⟩ : ∃ q, vals.length = q := ⟨_, rfl⟩
      replace hr : rowAt wr b (off + k * 4) 4 = some #[.int .i64 rc, .int .i64 rn, .int .i64 re, .slice rA vals.length rq] := hr
      rw [hq] at hr
      simp only [hq] at ht hs
      have S5 := S.alloc (.cells #[.int .i64 rc, .int .i64 rn, .int .i64 re, .slice rA q rq] 49)
      have ht5 := ht.below S5.b
      have hg5 := heap_alloc_new wr (.cells #[.int .i64 rc, .int .i64 rn, .int .i64 re, .slice rA q rq] 49)
      have OW5 := OW.below ((Below.refl wr.heap.size wr).alloc (Nat.le_refl _) (.cells #[.int .i64 rc, .int .i64 rn, .int .i64 re, .slice rA q rq] 49))
      have E := Lib.hid (And.intro hq (And.intro htk (And.intro hok (And.intro hd (And.intro hl (And.intro S5 (And.intro OW5 (And.intro hg5 (And.intro OW S)))))))))
      clear hq htk hok hd hl S5 OW5 hg5 OW hin hel hb
      go_wp2_with fail
      refine (cloneS_any rA q rq vals _ ht5 hs).mono ?_
      rintro e w6 ⟨v6, rfl, ot6, hb6⟩
      obtain ⟨hq, htk, hok, hd, hl, S5, OW5, hg5, OW, -⟩ := E.out
      obtain ⟨A6, c6, hv6, -, -⟩ := ot6.ts (hok.l)
      rw [hq] at hv6
      subst hv6
      have S6 := S5.below hb6
      have OW6 := OW5.below hb6
      have hg6 := (hb6.block _ (by simp)).trans hg5
      have hgO : w3.heap.size < wr.heap.size := S.olt
      have f63 : w6.frozen? ⟨wr.heap.size, 3, none⟩ = false := by simp [World.frozen?, hg6]
      have c63 : w6.cell? ⟨wr.heap.size, 3, none⟩ = some (.slice rA q rq) := by rw [cell_of_row _ _ _ _ _ _ hg6]; rfl
      have c61 : w6.cell? ⟨w3.heap.size, 1, none⟩ = some (.slice Ax k cx) := S6.co 1 rfl
      have f61 : w6.frozen? ⟨w3.heap.size, 1, none⟩ = false := S6.fo 1
      have hM : Mv (· = wr.heap.size) w6 (w6.setCell ⟨wr.heap.size, 3, none⟩ (.slice A6 q c6)) := Mv.setCell _ _ _ rfl
      have hrow : rowAt (w6.setCell ⟨wr.heap.size, 3, none⟩ (.slice A6 q c6)) wr.heap.size 0 4 = some #[.int .i64 rc, .int .i64 rn, .int .i64 re, .slice A6 q c6] := by
        unfold rowAt
        rw [heap_setCell_same _ _ _ _ _ _ hg6]
        exact cut_all _ _ rfl
      have S7 := S6.mv hM (fun i hi => by subst hi; have := S.lt; exact ⟨by omega, by omega⟩)
      have OW7 : OwnS (w.heap.size + 1 + 1) w3.heap.size (w6.setCell ⟨wr.heap.size, 3, none⟩ (.slice A6 q c6)) (.slice Aq np cq) (.slice Ax k cx) (.slice Ac nm cc) ps R ms :=
        OW6.mv hM (fun g hg c => by have := (own_lt OW.p hg).2; omega) (fun g hg c => by have := (own_lt OW.r hg).2; omega) (fun g hg c => by have := (own_lt OW.m hg).2; omega) (fun x hx g hg c => by have := (own_lt (OW.t x hx) hg).2; omega)
      have ot7 : OT (w6.setCell ⟨wr.heap.size, 3, none⟩ (.slice A6 q c6)) (w.heap.size + 1 + 1) (.slice A6 q c6) vals := own_mv (own_mono ot6 (by have := S.lt; simp; omega)) hM (fun g hg c => by have := (own_lt ot6 hg).1; simp at this; omega)
      obtain ⟨x, hx⟩ : ∃ x, x = Rp.mk rc rn re A6 c6 vals := ⟨_, rfl⟩
      have hxa : x.arr = #[.int .i64 rc, .int .i64 rn, .int .i64 re, .slice A6 q c6] := by rw [hx, ← hq]; rfl
      have hxv : x.v = .slice A6 q c6 := by rw [hx, ← hq]; rfl
      have hxd : x.d = (rc, rn, re, vals) := by rw [hx]; rfl
      have hxo : x.ok := by rw [hx]; exact ⟨hok.c, hok.n, hok.l, hok.s⟩
      have hxt : x.vals = vals := by rw [hx]
      have h100 : R.length ≤ 100000 := by omega
      obtain ⟨v9, w9, r9, o9, m9, b9⟩ := rep_push 23 (by rw [hl]; have := OW7.r; rw [hl] at this; exact this) x h100 (by have h1 := S7.lt; have h2 := S7.olt; omega)
      have OW9 := OW7.push hxo (by simp; exact S6.olt) (by rw [hxv, hxt]; exact ot7) (fun j hj => by
        rw [hxv] at hj
        have := (own_lt ot6 hj).1
        simp at this
        exact ⟨by omega, fun c => by have := (own_lt OW.p c).2; omega, fun c => by have := (own_lt OW.r c).2; omega⟩) o9 m9 (b9.imp id (fun h => ⟨_, h, by simp⟩))
      have S9 := S7.mv m9 (fun i hi => ⟨(own_lt OW.r hi).1, (OW.ar i hi).1⟩)
      obtain ⟨A9, c9, hv9, -, -⟩ := own_shape o9
      subst hv9
      rw [hl] at r9 OW9
      have hbs : ∀ W : World, (bsRow 23 1 #[(0, .agg #[.int .i64 rc, .int .i64 rn, .int .i64 re, .slice A6 q c6])]).run Tryd.prog W = .ok (.slice (some ⟨W.heap.size, 0, none⟩) 1 1) (W.alloc (.cells #[.int .i64 rc, .int .i64 rn, .int .i64 re, .slice A6 q c6] 49)) := fun W => by
        have := bs_M1R hxo W
        rw [hxa] at this
        exact this
      rw [hxa] at r9
      have f91 := S9.fo 1
      have c91 : w9.cell? ⟨w3.heap.size, 1, none⟩ = some (.slice Ax k cx) := S9.co 1 rfl
      have S10 := S9.set 1 (.slice A9 (k + 1) c9)
      have OW10 := OW9.setO 1 (.slice A9 (k + 1) c9)
      have hd10 : (R ++ [x]).map Rp.d = (rs.take (k + 1)).map Rp.d := by rw [htk, List.map_append, hd, List.map_singleton, hxd]; rfl
      have E2 := Lib.hid (And.intro S10 (And.intro OW10 (And.intro hd10 (show (R ++ [x]).length = k + 1 by rw [List.length_append, hl]; rfl))))
      have nb : ¬ wr.heap.size = w3.heap.size := by omega
      have nb' : ¬ w3.heap.size = wr.heap.size := by omega
      simp only [World.size_setCell] at r9
      clear S10 OW10 hd10 S9 OW9 o9 m9 b9 h100 hxt hxo hxd hxv hxa hx ot7 OW7 S7 hM hg6 OW6 S6 ot6 OW hg5 OW5 S5 hl hd hok htk hq hb6 E ht5 hs ht HS
      go_wp2_with fail
      go_roundw
      case rel => exact ⟨k + 1, by omega, by go_num, A9, c9, R ++ [x], E2.out.1, E2.out.2.2.2, E2.out.2.1, E2.out.2.2.1⟩
      case measure => simp [intOf]; omega
    · have hkn : k = nr := by omega
      subst hkn
      have hrow := S.row rfl
      obtain ⟨p1, p2, -⟩ := S.z.put (cs := #[.slice Aq np cq, .slice Ax k cx, .int .i64 ep, .slice Ac nm cc]) rfl (by simp [oneCells, Value.oneCell'])
      have OWz := OW.mv (Mv.setRow (fp := (· = w.heap.size + 1)) wr (w.heap.size + 1) #[.slice Aq np cq, .slice Ax k cx, .int .i64 ep, .slice Ac nm cc] rfl) (fun g hg c => by have := (own_lt OW.p hg).1; omega) (fun g hg c => by have := (own_lt OW.r hg).1; omega) (fun g hg c => by have := (own_lt OW.m hg).1; omega) (fun x hx g hg c => by have := (own_lt (OW.t x hx) hg).1; omega)
      have E := Lib.hid (And.intro (OWz.base (B' := w.heap.size) (by omega)) (And.intro hd (below_setRow S.b (Nat.le_succ _) #[.slice Aq np cq, .slice Ax k cx, .int .i64 ep, .slice Ac nm cc])))
      clear S OW hd HS OWz
      go_wp2_with fail
      refine bodyPost_ret (v := .agg #[.slice Aq np cq, .slice Ax k cx, .int .i64 ep, .slice Ac nm cc]) (by rw [results_cell1 Tryd.results25]; simp [go_sem, p2]) rfl ?_
      exact ⟨_, _, _, R, w3.heap.size, rfl, E.out.1, by rw [E.out.2.1, ← HN.out.2.1, List.take_length], E.out.2.2⟩
end Go.Proofs.YtfnfgnhbnffagaaDoor

/-
A client's last reply; a key's value.
-/
namespace Go.Proofs.YtfnfgnhbnffagaaDoor
open Go.RowKit
set_option linter.unusedVariables false
set_option linter.unusedSimpArgs false
set_option maxRecDepth 100000
@[go_sem] theorem zero_rep : SizeIs Rp.zero.arr 4 := rfl
@[go_sem] theorem cut4 (a b c d : Value) : cut #[a, b, c, d] 0 4 = some #[a, b, c, d] := cut_all _ _ rfl
/-- what Last answers -/
def LastEnd (rs : List Rp) (c : Int) (w : World) (e : Ending) (w' : World) : Prop :=
  Below w.heap.size w w' ∧ ((lastB rs c = false ∧ e = .returned (.tuple #[.agg #[.int .i64 0, .int .i64 0, .int .i64 0, .slice none 0 0], .bool false])) ∨
    (lastB rs c = true ∧ ∃ v, e = .returned (.tuple #[.agg #[.int .i64 (rs.getD (lastI rs c) default).client, .int .i64 (rs.getD (lastI rs c) default).num, .int .i64 (rs.getD (lastI rs c) default).code, v], .bool true]) ∧ OT w' w.heap.size v (rs.getD (lastI rs c) default).vals))
set_option maxHeartbeats 4000000 in
theorem Last_none (v : Value) (ps : List Pr) (rs : List Rp) (ep : Int) (ms : List Mb) (c : Int) (w : World) (h : StS w v ps rs ep ms) (hb : lastB rs c = false) : Calls Tryd.prog 16 #[v, .int .i64 c] w fun e w' => e = .returned (.tuple #[.agg #[.int .i64 0, .int .i64 0, .int .i64 0, .slice none 0 0], .bool false]) ∧ Below w.heap.size w w' := by
  obtain ⟨Ap, cp, Ar, cr, Am, cm, rfl, h1, h2, h3, h4, h5, h6, h7⟩ := h.ex
  have hB : Below w.heap.size w ((w.alloc (.cells #[.slice Ap ps.length cp, .slice Ar rs.length cr, .int .i64 ep, .slice Am ms.length cm] 28)).alloc (.cells #[.int .i64 0, .int .i64 0, .int .i64 0, .slice none 0 0] 49)) := ((Below.refl _ _).alloc (Nat.le_refl _) _).alloc (by simp) _
  have hZ : Bx ((w.alloc (.cells #[.slice Ap ps.length cp, .slice Ar rs.length cr, .int .i64 ep, .slice Am ms.length cm] 28)).alloc (.cells #[.int .i64 0, .int .i64 0, .int .i64 0, .slice none 0 0] 49)) (w.heap.size + 1) 4 49 := by
    have := Bx.made (w.alloc (.cells #[.slice Ap ps.length cp, .slice Ar rs.length cr, .int .i64 ep, .slice Am ms.length cm] 28)) #[.int .i64 0, .int .i64 0, .int .i64 0, .slice none 0 0] 49 4 rfl
    simpa using this
  have H3 := h3.below hB
  have HB := Lib.hid hb
  clear h h1 h2 h3 h4 h5 h6 h7 hb
  go_enter Tryd.func16, Tryd.ntmps16
  go_wp2_with fail
  refine (last_any _ _ Ar rs.length cr ep rs c _ H3).mono ?_
  rw [HB.out]
  rintro e w3 ⟨rfl, hb3⟩
  obtain ⟨p1, p2, -⟩ := (hZ.below hb3).put (cs := #[.int .i64 0, .int .i64 0, .int .i64 0, .slice none 0 0]) rfl (by simp [oneCells, Value.oneCell'])
  have hB3 := below_setRow (hB.trans (hb3.mono hB.size)) (Nat.le_succ w.heap.size) #[.int .i64 0, .int .i64 0, .int .i64 0, .slice none 0 0]
  clear hb3 hZ H3 hB
  go_wp2_with fail
  refine bodyPost_ret (v := .tuple #[.agg #[.int .i64 0, .int .i64 0, .int .i64 0, .slice none 0 0], .bool false]) (by rw [results_cell2 Tryd.results16]; simp [go_sem, p2]) rfl ⟨rfl, hB3⟩
set_option maxHeartbeats 4000000 in
theorem Last_some (v : Value) (ps : List Pr) (rs : List Rp) (ep : Int) (ms : List Mb) (c : Int) (w : World) (h : StS w v ps rs ep ms) (hb : lastB rs c = true) : Calls Tryd.prog 16 #[v, .int .i64 c] w fun e w' => Below w.heap.size w w' ∧ ∃ v, e = .returned (.tuple #[.agg #[.int .i64 (rs.getD (lastI rs c) default).client, .int .i64 (rs.getD (lastI rs c) default).num, .int .i64 (rs.getD (lastI rs c) default).code, v], .bool true]) ∧ OT w' w.heap.size v (rs.getD (lastI rs c) default).vals := by
  obtain ⟨Ap, cp, Ar, cr, Am, cm, rfl, h1, h2, h3, h4, h5, h6, h7⟩ := h.ex
  have hlen := h3.len
  obtain ⟨n, hn⟩ : ∃ n, rs.length = n := ⟨_, rfl⟩
  rw [hn] at h3 h4 hlen ⊢
  have hi := lastB_lt hb
  rw [hn] at hi
  have HN := Lib.hid hn
  clear h hn
  have hB : Below w.heap.size w ((w.alloc (.cells #[.slice Ap ps.length cp, .slice Ar n cr, .int .i64 ep, .slice Am ms.length cm] 28)).alloc (.cells #[.int .i64 0, .int .i64 0, .int .i64 0, .slice none 0 0] 49)) := ((Below.refl _ _).alloc (Nat.le_refl _) _).alloc (by simp) _
  have hZ : Bx ((w.alloc (.cells #[.slice Ap ps.length cp, .slice Ar n cr, .int .i64 ep, .slice Am ms.length cm] 28)).alloc (.cells #[.int .i64 0, .int .i64 0, .int .i64 0, .slice none 0 0] 49)) (w.heap.size + 1) 4 49 := by
    have := Bx.made (w.alloc (.cells #[.slice Ap ps.length cp, .slice Ar n cr, .int .i64 ep, .slice Am ms.length cm] 28)) #[.int .i64 0, .int .i64 0, .int .i64 0, .slice none 0 0] 49 4 rfl
    simpa using this
  have hA : ((w.alloc (.cells #[.slice Ap ps.length cp, .slice Ar n cr, .int .i64 ep, .slice Am ms.length cm] 28)).alloc (.cells #[.int .i64 0, .int .i64 0, .int .i64 0, .slice none 0 0] 49)).heap[w.heap.size]? = some (.cells #[.slice Ap ps.length cp, .slice Ar n cr, .int .i64 ep, .slice Am ms.length cm] 28 (0, 0)) := by
    rw [Below.heap_alloc _ _ _ (by simp)]; exact heap_alloc_new w _
  have H3 := h3.below hB
  obtain ⟨b, off, rfl, hbb, hel⟩ := h3.mem (by omega)
  have hr := hel _ hi
  have hok := h3.okAt hi
  have hin : rs.getD (lastI rs c) default ∈ rs := by
    rw [List.getD_eq_getElem?_getD, List.getElem?_eq_getElem (by have := HN.out; omega)]
    exact List.getElem_mem _
  obtain ⟨ht, hs⟩ := h7 _ hin
  generalize hI : lastI rs c = i at hi hr hok hin ht hs ⊢
  generalize rs.getD i default = r at hr hok hin ht hs ⊢
  obtain ⟨rc, rn, re, rA, rq, vals⟩ := r
  obtain ⟨q, hq⟩ : ∃ q, vals.length = q := ⟨_, rfl⟩
  replace hr : rowAt w b (off + i * 4) 4 = some #[.int .i64 rc, .int .i64 rn, .int .i64 re, .slice rA vals.length rq] := hr
  rw [hq] at hr
  simp only [hq] at ht hs
  have hsm := h3.small
  have hin1 : (i : Int) < n := by omega
  have hin0 : (0 : Int) ≤ i := by omega
  have hin2 : ¬ (i : Int) < 0 := by omega
  have hni : (n : Int) ≤ 140737488355328 := by omega
  have E := Lib.hid (And.intro hb (And.intro hI (And.intro hq (And.intro hok hin))))
  clear h1 h2 h3 h4 h5 h6 h7 hb hI hq hok hin hel hsm hlen
  go_enter Tryd.func16, Tryd.ntmps16
  go_wp2_with fail
  refine (last_any _ _ _ n cr ep rs c _ H3).mono ?_
  rw [E.out.1, E.out.2.1]
  rintro e w3 ⟨rfl, hb3⟩
  have hB3 := hB.trans (hb3.mono hB.size)
  have hr3 := (rowAt_below hB3 hbb _ _).trans hr
  have hA3 := (hb3.block _ (by simp; omega)).trans hA
  have a31 : w3.cell? ⟨w.heap.size, 1, none⟩ = some (.slice (some ⟨b, off, none⟩) n cr) := by rw [cell_of_row _ _ _ _ _ _ hA3]; rfl
  have hZ3 := hZ.below hb3
  have hg4 := heap_alloc_new w3 (.cells #[.int .i64 rc, .int .i64 rn, .int .i64 re, .slice rA q rq] 49)
  have b4 : Below w3.heap.size w3 (w3.alloc (.cells #[.int .i64 rc, .int .i64 rn, .int .i64 re, .slice rA q rq] 49)) := (Below.refl _ _).alloc (Nat.le_refl _) _
  have ht4 := ht.below (hB3.trans (b4.mono hB3.size))
  have E3 := Lib.hid (And.intro hB3 (And.intro hZ3 (And.intro hg4 b4)))
  clear hB hA hZ H3 hb3 hB3 hA3 hZ3 hg4 b4 ht hr hin2
  have hin2 : ¬ (i : Int) < 0 := by omega
  go_wp2_with fail
  refine (cloneS_any rA q rq vals _ ht4 hs).mono ?_
  rintro e w6 ⟨v6, rfl, ot6, hb6⟩
  obtain ⟨hB3, hZ3, hg4, b4⟩ := E3.out
  obtain ⟨A6, c6, hv6, -, -⟩ := ot6.ts (E.out.2.2.2.1.l)
  rw [E.out.2.2.1] at hv6
  subst hv6
  have hg6 := (hb6.block _ (by simp)).trans hg4
  have hz6 := (hZ3.below b4).below hb6
  have hlt3 := hZ3.lt
  have f63 : w6.frozen? ⟨w3.heap.size, 3, none⟩ = false := by simp [World.frozen?, hg6]
  have c63 : w6.cell? ⟨w3.heap.size, 3, none⟩ = some (.slice rA q rq) := by rw [cell_of_row _ _ _ _ _ _ hg6]; rfl
  have hrow : rowAt (w6.setCell ⟨w3.heap.size, 3, none⟩ (.slice A6 q c6)) w3.heap.size 0 4 = some #[.int .i64 rc, .int .i64 rn, .int .i64 re, .slice A6 q c6] := by
    unfold rowAt
    rw [heap_setCell_same _ _ _ _ _ _ hg6]
    exact cut_all _ _ rfl
  have hz7 := hz6.of_block (w' := w6.setCell ⟨w3.heap.size, 3, none⟩ (.slice A6 q c6)) (heap_setCell_other _ _ _ _ (by simp; omega))
  obtain ⟨p1, p2, -⟩ := hz7.put (cs := #[.int .i64 rc, .int .i64 rn, .int .i64 re, .slice A6 q c6]) rfl (by simp [oneCells, Value.oneCell'])
  have hbz : Below w.heap.size w ((w6.setCell ⟨w3.heap.size, 3, none⟩ (.slice A6 q c6)).setRow (w.heap.size + 1) #[.int .i64 rc, .int .i64 rn, .int .i64 re, .slice A6 q c6]) := by
    have h1 := hB3.trans ((b4.trans (hb6.mono b4.size)).mono hB3.size)
    refine below_setRow ?_ (Nat.le_succ _) _
    rw [setCell_eq_setRow _ _ _ _ _ _ _ hg6]
    exact below_setRow h1 hB3.size _
  have otz : OT ((w6.setCell ⟨w3.heap.size, 3, none⟩ (.slice A6 q c6)).setRow (w.heap.size + 1) #[.int .i64 rc, .int .i64 rn, .int .i64 re, .slice A6 q c6]) w.heap.size (.slice A6 q c6) vals := by
    have h1 := hB3.size
    have hl : ∀ g, (Value.slice A6 q c6).ownBlock = some g → w3.heap.size + 1 ≤ g := fun g hg => by have := (own_lt ot6 hg).1; simpa using this
    refine own_mv (fp := fun i => i = w.heap.size + 1 ∨ i = w3.heap.size) (own_mono ot6 (by simp; omega)) ((Mv.setCell (fp := fun i => i = w.heap.size + 1 ∨ i = w3.heap.size) _ _ _ (.inr rfl)).trans (Mv.setRow (fp := fun i => i = w.heap.size + 1 ∨ i = w3.heap.size) _ _ _ (.inl rfl)) (fun _ _ h => h)) (fun g hg c => ?_)
    have := hl g hg
    rcases c with c | c <;> omega
  have HZ := Lib.hid (And.intro hbz otz)
  have nb : ¬ w3.heap.size = w.heap.size + 1 := by omega
  clear hbz otz hz7 hz6 hg6 hb6 ot6 hB3 hZ3 hg4 b4 hr3 a31
  go_wp2_with fail
  refine bodyPost_ret (v := .tuple #[.agg #[.int .i64 rc, .int .i64 rn, .int .i64 re, .slice A6 q c6], .bool true]) (by rw [results_cell2 Tryd.results16]; simp [go_sem, p2]) rfl ?_
  exact ⟨HZ.out.1, _, rfl, HZ.out.2⟩
end Go.Proofs.YtfnfgnhbnffagaaDoor
