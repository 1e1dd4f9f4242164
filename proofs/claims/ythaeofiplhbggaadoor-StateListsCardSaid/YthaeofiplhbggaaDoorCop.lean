/-
A registry in memory; New; a copy that shares nothing.
-/
import Derived.Test.YthaeofiplhbggaaDoorTs
import Derived.Test.YthaeofiplhbggaaDoorSl
import Derived.Test.YthaeofiplhbggaaDoorSrch
import Derived.Deep.RegionHeld3
import Derived.Deep.CutBlock
namespace Go.Proofs.YthaeofiplhbggaaDoor
open Go.RowKit
set_option linter.unusedVariables false
set_option linter.unusedSimpArgs false
set_option maxRecDepth 100000
/-- a registry that can be read -/
structure StS (w : World) (v : Value) (ps : List Pr) (rs : List Rp) (ep : Int) (ms : List Mb) : Prop where
  ex : ∃ Ap cp Ar cr Am cm, v = .agg #[.slice Ap ps.length cp, .slice Ar rs.length cr, .int .i64 ep, .slice Am ms.length cm] ∧ PS w Ap ps.length ps ∧ SlOk Ap ps.length ∧ RS w Ar rs.length rs ∧ SlOk Ar rs.length ∧ MS w Am ms.length ms ∧ SlOk Am ms.length ∧
    ∀ r ∈ rs, TS w r.A r.vals.length r.vals ∧ SlOk r.A r.vals.length
theorem StS.below {w w' : World} {v : Value} {ps : List Pr} {rs : List Rp} {ep : Int} {ms : List Mb} (h : StS w v ps rs ep ms) (hb : Below w.heap.size w w') : StS w' v ps rs ep ms := by
  obtain ⟨Ap, cp, Ar, cr, Am, cm, hv, h1, h2, h3, h4, h5, h6, h7⟩ := h.ex
  exact ⟨⟨Ap, cp, Ar, cr, Am, cm, hv, h1.below hb, h2, h3.below hb, h4, h5.below hb, h6, fun r hr => ⟨(h7 r hr).1.below hb, (h7 r hr).2⟩⟩⟩
@[go_sem ↓] theorem lv_State (a : Addr) : loadVar 28 a = ldVar 28 a := rfl
@[go_sem ↓] theorem sv_State (a : Addr) (v : Value) : storeVar 28 a v = stVar 28 a v := rfl
@[go_sem] theorem run_lv_State (w : World) (b o : Nat) : (ldVar 28 ⟨b, o, none⟩).run Tryd.prog w = match rowAt w b o 4 with | some cs => .ok (.agg cs) w | none => (ldRaw 28 ⟨b, o, none⟩).run Tryd.prog w :=
  run_ldVar w 28 b o 4 _ Tryd.underlying28 rfl (by kernel_rfl)
@[go_sem] theorem run_sv_State (w : World) (b : Nat) (cs : Array Value) : (stVar 28 ⟨b, 0, none⟩ (.agg cs)).run Tryd.prog w = match putRow w b 4 cs with | some w' => .ok () w' | none => (stRaw 28 ⟨b, 0, none⟩ (.agg cs)).run Tryd.prog w :=
  run_stVar w 28 b 4 cs (by kernel_rfl)
/-- what New answers: members of its own -/
def NewEnd (ep : Int) (ms : List Mb) (w : World) (e : Ending) (w' : World) : Prop :=
  ∃ vm, e = .returned (.agg #[.slice none 0 0, .slice none 0 0, .int .i64 ep, vm]) ∧ w'.ownsRow w.heap.size 72 34 vm ms.length (flatC Mb.cells ms) ∧ Below w.heap.size w w'
/-- a block of so many cells that may be written -/
def Bx (w : World) (g n : Nat) (t : TypeId) : Prop := ∃ c : Array Value, w.heap[g]? = some (.cells c t (0, 0)) ∧ c.size = n
theorem Bx.below {w w' : World} {g n : Nat} {t : TypeId} (h : Bx w g n t) (hb : Below w.heap.size w w') : Bx w' g n t := by
  obtain ⟨c, h1, h2⟩ := h
  exact ⟨c, (hb.block g (Array.getElem?_eq_some_iff.1 h1).1).trans h1, h2⟩
theorem Bx.drew {w : World} {g n : Nat} {t : TypeId} (h : Bx w g n t) : Bx w.drew g n t := h
theorem Bx.lt {w : World} {g n : Nat} {t : TypeId} (h : Bx w g n t) : g < w.heap.size := by
  obtain ⟨c, h1, -⟩ := h
  exact (Array.getElem?_eq_some_iff.1 h1).1
theorem Bx.put {w : World} {g n : Nat} {t : TypeId} (h : Bx w g n t) {cs : Array Value} (hs : cs.size = n) (h1 : oneCells cs = true) :
    putRow w g n cs = some (w.setRow g cs) ∧ rowAt (w.setRow g cs) g 0 n = some cs ∧ Bx (w.setRow g cs) g n t := by
  obtain ⟨c, hc, hn⟩ := h
  refine ⟨?_, ?_, ⟨cs, setRow_heap w g c cs t (0, 0) hc, hs⟩⟩
  · unfold putRow
    rw [hc]
    simp only [hn, hs, h1, and_self, if_true]
  · unfold rowAt
    rw [setRow_heap w g c cs t (0, 0) hc]
    exact cut_all cs n hs
theorem cell_setRow (w : World) (g : Nat) (cs : Array Value) (b o : Nat) (h : b ≠ g) : (w.setRow g cs).cell? ⟨b, o, none⟩ = w.cell? ⟨b, o, none⟩ := by
  unfold World.cell?
  rw [setRow_other w g b cs h]
theorem Bx.made (w : World) (c : Array Value) (t : TypeId) (n : Nat) (h : c.size = n) : Bx (w.alloc (.cells c t)) w.heap.size n t := ⟨c, heap_alloc_new w _, h⟩
theorem own_mono {w : World} {B B' : Nat} {e sz n : Nat} {v : Value} {xs : List Value} (h : w.ownsRow B' e sz v n xs) (hb : B ≤ B') : w.ownsRow B e sz v n xs :=
  ⟨h.1, h.2.imp id (fun ⟨g, x, c, h1, h2, h3⟩ => ⟨g, x, c, h1, Nat.le_trans hb h2, h3⟩)⟩
set_option maxHeartbeats 1000000 in
theorem new_any (ep : Int) (A : Option Addr) (n cap : Nat) (ms : List Mb) (w : World) (h : MS w A n ms) (ho : SlOk A n) (hb : n * 48 ≤ 140737488355328) :
    Calls Tryd.prog 10 #[.agg #[.int .i64 ep, .slice A n cap]] w (NewEnd ep ms w) := by
  obtain ⟨w2, hw2⟩ : ∃ w2, (w.alloc (.cells #[.int .i64 ep, .slice A n cap] 26)).alloc (.cells #[.slice none 0 0, .slice none 0 0, .int .i64 0, .slice none 0 0] 28) = w2 := ⟨_, rfl⟩
  have hS2 : w2.drew.cell? ⟨w.heap.size, 0, none⟩ = some (.int .i64 ep) ∧ w2.drew.cell? ⟨w.heap.size, 1, none⟩ = some (.slice A n cap) ∧ Below w.heap.size w w2.drew ∧ Bx w2.drew (w.heap.size + 1) 4 28 := by
    rw [← hw2]
    refine ⟨?_, ?_, (((Below.refl w.heap.size w).alloc (Nat.le_refl _) _).alloc (by simp) _).drew, ?_⟩
    · rw [World.cell?_drew, World.cell?_alloc_past _ _ _ (by simp), World.cell?_alloc_at _ _ _ _ rfl]; rfl
    · rw [World.cell?_drew, World.cell?_alloc_past _ _ _ (by simp), World.cell?_alloc_at _ _ _ _ rfl]; rfl
    · have := Bx.made (w.alloc (.cells #[.int .i64 ep, .slice A n cap] 26)) #[.slice none 0 0, .slice none 0 0, .int .i64 0, .slice none 0 0] 28 4 rfl
      simpa using this.drew
  have hcl : ∀ w', (w'.cell? ⟨w.heap.size, 0, none⟩ = some (.int .i64 ep) ∧ w'.cell? ⟨w.heap.size, 1, none⟩ = some (.slice A n cap) ∧ Below w.heap.size w w' ∧ Bx w' (w.heap.size + 1) 4 28) → Calls Tryd.prog 21 #[.slice A n cap] w' fun e w3 => ∃ Ac cc, e = .returned (.slice Ac n cc) ∧
      (w3.cell? ⟨w.heap.size, 0, none⟩ = some (.int .i64 ep) ∧ w3.cell? ⟨w.heap.size, 1, none⟩ = some (.slice A n cap) ∧ Below w.heap.size w w3 ∧ Bx w3 (w.heap.size + 1) 4 28) ∧
      putRow w3 (w.heap.size + 1) 4 #[.slice none 0 0, .slice none 0 0, .int .i64 ep, .slice Ac n cc] = some (w3.setRow (w.heap.size + 1) #[.slice none 0 0, .slice none 0 0, .int .i64 ep, .slice Ac n cc]) ∧
      rowAt (w3.setRow (w.heap.size + 1) #[.slice none 0 0, .slice none 0 0, .int .i64 ep, .slice Ac n cc]) (w.heap.size + 1) 0 4 = some #[.slice none 0 0, .slice none 0 0, .int .i64 ep, .slice Ac n cc] ∧
      ((w3.setRow (w.heap.size + 1) #[.slice none 0 0, .slice none 0 0, .int .i64 ep, .slice Ac n cc]).cell? ⟨w.heap.size, 0, none⟩ = some (.int .i64 ep) ∧ (w3.setRow (w.heap.size + 1) #[.slice none 0 0, .slice none 0 0, .int .i64 ep, .slice Ac n cc]).cell? ⟨w.heap.size, 1, none⟩ = some (.slice A n cap) ∧ Below w.heap.size w (w3.setRow (w.heap.size + 1) #[.slice none 0 0, .slice none 0 0, .int .i64 ep, .slice Ac n cc]) ∧ Bx (w3.setRow (w.heap.size + 1) #[.slice none 0 0, .slice none 0 0, .int .i64 ep, .slice Ac n cc]) (w.heap.size + 1) 4 28) ∧
      (w3.setRow (w.heap.size + 1) #[.slice none 0 0, .slice none 0 0, .int .i64 ep, .slice Ac n cc]).ownsRow w.heap.size 72 34 (.slice Ac n cc) ms.length (flatC Mb.cells ms) := fun w' ⟨h0, h1, h2, h3⟩ => by
    refine (cloneM A n cap ms w' (h.below h2) hb ho).mono ?_
    rintro e w3 ⟨v, rfl, o, b⟩
    obtain ⟨Ac, cc, rfl, -⟩ := MS_of_own o h.ok h.small
    have g1 := h3.lt
    have c0 := (b.cell (p := ⟨w.heap.size, 0, none⟩) (by simp; omega)).trans h0
    have c1 := (b.cell (p := ⟨w.heap.size, 1, none⟩) (by simp; omega)).trans h1
    have b3 := h2.trans (b.mono h2.size)
    have x3 := h3.below b
    obtain ⟨p1, p2, p3⟩ := x3.put (cs := #[.slice none 0 0, .slice none 0 0, .int .i64 ep, .slice Ac n cc]) rfl (by simp [oneCells, Value.oneCell'])
    refine ⟨Ac, cc, rfl, ⟨c0, c1, b3, x3⟩, p1, p2, ⟨?_, ?_, below_setRow b3 (by omega) _, p3⟩, ?_⟩
    · rw [cell_setRow _ _ _ _ _ (by omega)]; exact c0
    · rw [cell_setRow _ _ _ _ _ (by omega)]; exact c1
    · rw [h.len]
      refine ⟨o.1, o.2.imp id (fun ⟨g, x, c, h1, h2, h3, h4⟩ => ⟨g, x, c, h1, by omega, ?_, h4⟩)⟩
      rw [setRow_other _ _ _ _ (by omega)]
      exact h3
  clear h ho hb
  go_enter Tryd.func10, Tryd.ntmps10
  go_wp2_with fail
  clear hw2
  go_region_held3 (fun w' => w'.cell? ⟨w.heap.size, 0, none⟩ = some (.int .i64 ep) ∧ w'.cell? ⟨w.heap.size, 1, none⟩ = some (.slice A n cap) ∧ Below w.heap.size w w' ∧ Bx w' (w.heap.size + 1) 4 28) (assumption) (first | (go_at_call 21; refine (hcl _ (by assumption)).mono ?_; rintro e w3 ⟨Ac, cc, rfl, hS3, p1, p2, hS4, own⟩))
  go_wp2_with fail
  refine bodyPost_ret (v := .agg #[.slice none 0 0, .slice none 0 0, .int .i64 ep, .slice Ac n cc]) (by rw [results_cell1 Tryd.results10]; simp [go_sem, *]) rfl ?_
  exact ⟨_, rfl, own, hS4.2.2.1⟩
@[go_sem] theorem st_sz (a b c d : Value) : SizeIs #[a, b, c, d] 4 := rfl
@[go_sem] theorem st_ones (A1 : Option Addr) (n1 c1 : Nat) (A2 : Option Addr) (n2 c2 : Nat) (e : Int) (A3 : Option Addr) (n3 c3 : Nat) : oneCells #[.slice A1 n1 c1, .slice A2 n2 c2, .int .i64 e, .slice A3 n3 c3] = true := by simp [oneCells, Value.oneCell']
/-- two boxes of a walk: a registry that came in, and the one that is made -/
structure Cp (W : World) (O : Nat) (va vo : Array Value) (w : World) : Prop where
  lt : W.heap.size + 1 < O
  b : Below W.heap.size W w
  a : w.heap[W.heap.size]? = some (.cells va 28 (0, 0))
  z : Bx w (W.heap.size + 1) 4 28
  o : w.heap[O]? = some (.cells vo 28 (0, 0))
theorem Cp.start {W w : World} {va vo : Array Value} (hb : Below W.heap.size W w) (ha : w.heap[W.heap.size]? = some (.cells va 28 (0, 0))) (hz : Bx w (W.heap.size + 1) 4 28) : Cp W w.heap.size va vo (w.alloc (.cells vo 28)) :=
  ⟨hz.lt, hb.alloc hb.size _, (Below.heap_alloc w _ _ (Array.getElem?_eq_some_iff.1 ha).1).trans ha, hz.below ((Below.refl _ _).alloc (Nat.le_refl _) _), heap_alloc_new w _⟩
theorem Cp.olt {W w : World} {O : Nat} {va vo : Array Value} (h : Cp W O va vo w) : O < w.heap.size := (Array.getElem?_eq_some_iff.1 h.o).1
theorem Cp.below {W w w' : World} {O : Nat} {va vo : Array Value} (h : Cp W O va vo w) (hb : Below w.heap.size w w') : Cp W O va vo w' :=
  ⟨h.lt, h.b.trans (hb.mono h.b.size), (hb.block _ (by have := h.lt; have := h.olt; omega)).trans h.a, h.z.below hb, (hb.block _ h.olt).trans h.o⟩
theorem Cp.drew {W w : World} {O : Nat} {va vo : Array Value} (h : Cp W O va vo w) : Cp W O va vo w.drew := ⟨h.lt, h.b.drew, h.a, h.z, h.o⟩
theorem Cp.alloc {W w : World} {O : Nat} {va vo : Array Value} (h : Cp W O va vo w) (ob : Obj) : Cp W O va vo (w.alloc ob) := h.below ((Below.refl _ _).alloc (Nat.le_refl _) ob)
theorem Bx.of_block {w w' : World} {g n : Nat} {t : TypeId} (h : Bx w g n t) (e : w'.heap[g]? = w.heap[g]?) : Bx w' g n t := by
  obtain ⟨c, h1, h2⟩ := h
  exact ⟨c, e.trans h1, h2⟩
theorem Cp.set {W w : World} {O : Nat} {va vo : Array Value} (h : Cp W O va vo w) (i : Nat) (v : Value) : Cp W O va (vo.setIfInBounds i v) (w.setCell ⟨O, i, none⟩ v) :=
  ⟨h.lt, by rw [setCell_eq_setRow w _ i vo 28 (0, 0) v h.o]; exact below_setRow h.b (by have := h.lt; omega) _, by rw [heap_setCell_other _ _ _ _ (by have := h.lt; simp; omega)]; exact h.a, h.z.of_block (heap_setCell_other _ _ _ _ (by have := h.lt; simp; omega)), heap_setCell_same w _ i vo 28 v h.o⟩
theorem Cp.ca {W w : World} {O : Nat} {va vo : Array Value} (h : Cp W O va vo w) (i : Nat) {v : Value} (hv : va[i]? = some v) : w.cell? ⟨W.heap.size, i, none⟩ = some v := by
  rw [cell_of_row w _ i va 28 (0, 0) h.a, hv]
theorem Cp.co {W w : World} {O : Nat} {va vo : Array Value} (h : Cp W O va vo w) (i : Nat) {v : Value} (hv : vo[i]? = some v) : w.cell? ⟨O, i, none⟩ = some v := by
  rw [cell_of_row w _ i vo 28 (0, 0) h.o, hv]
theorem Cp.fo {W w : World} {O : Nat} {va vo : Array Value} (h : Cp W O va vo w) (i : Nat) : w.frozen? ⟨O, i, none⟩ = false := by
  simp [World.frozen?, h.o]
theorem Cp.row {W w : World} {O : Nat} {va vo : Array Value} (h : Cp W O va vo w) (hs : vo.size = 4) : rowAt w O 0 4 = some vo := by
  unfold rowAt
  rw [h.o]
  exact cut_all _ _ hs
end Go.Proofs.YthaeofiplhbggaaDoor
