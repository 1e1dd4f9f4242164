/-
The configuration behind a change: the package's Apply.
-/
import Derived.Test.YtfnfgnhbnffagaaDoorZGood
import Derived.Test.YtfnfgnhbnffagaaDoorZLook
import Derived.Test.YtfnfgnhbnffagaaDoorZSl
import Derived.Deep.RegionHeld3
import Derived.Deep.DeepCutAuto
import Derived.OneCell
import Derived.Deep.Onto
namespace Go.Proofs.YtfnfgnhbnffagaaDoor
open Go.RowKit
set_option linter.unusedVariables false
set_option maxRecDepth 100000

/-- what Apply holds in its first three blocks: the configuration, the change, the answer to come -/
structure Ap (B : Nat) (ep : Int) (A : Option Addr) (n cap : Nat) (x : Chg) (w : World) : Prop where
  c0 : w.cell? ⟨B, 0, none⟩ = some (.int .i64 ep)
  c1 : w.cell? ⟨B, 1, none⟩ = some (.slice A n cap)
  k0 : w.cell? ⟨B + 1, 0, none⟩ = some (.int .i64 x.kind)
  k1 : w.cell? ⟨B + 1, 1, none⟩ = some (.int .i64 x.id)
  k2 : w.cell? ⟨B + 1, 2, none⟩ = some (.int .i64 x.nw)
  kk : rowAt w (B + 1) 3 33 = some x.key.arr
  r0 : w.cell? ⟨B + 2, 0, none⟩ = some (.int .i64 0)
  r1 : w.cell? ⟨B + 2, 1, none⟩ = some (.slice none 0 0)
  f0 : w.frozen? ⟨B + 2, 0, none⟩ = false
  f1 : w.frozen? ⟨B + 2, 1, none⟩ = false
  sz : B + 3 ≤ w.heap.size
theorem Ap.start (w : World) (ep : Int) (A : Option Addr) (n cap : Nat) {x : Chg} (h : x.ok) :
    Ap w.heap.size ep A n cap x (((w.alloc (.cells #[.int .i64 ep, .slice A n cap] 26)).alloc (.cells x.arr 42)).alloc (.cells #[.int .i64 0, .slice none 0 0] 26)) := by
  have h0 := x.at0
  have h1 := x.at1
  have h2 := x.at2
  have h3 := Chg.cutKey h
  have s1 : ∀ o, (((w.alloc (.cells #[.int .i64 ep, .slice A n cap] 26)).alloc (.cells x.arr 42)).alloc (.cells #[.int .i64 0, .slice none 0 0] 26)).cell? ⟨w.heap.size, o, none⟩ = #[.int .i64 ep, .slice A n cap][o]? := fun o => by
    rw [World.cell?_alloc_past _ _ _ (by simp; omega), World.cell?_alloc_past _ _ _ (by simp), World.cell?_alloc_at _ _ _ _ rfl]
  have s2 : ∀ o, (((w.alloc (.cells #[.int .i64 ep, .slice A n cap] 26)).alloc (.cells x.arr 42)).alloc (.cells #[.int .i64 0, .slice none 0 0] 26)).cell? ⟨w.heap.size + 1, o, none⟩ = x.arr[o]? := fun o => by
    rw [World.cell?_alloc_past _ _ _ (by simp), World.cell?_alloc_at _ _ _ _ (by simp)]
  have s3 : ∀ o, (((w.alloc (.cells #[.int .i64 ep, .slice A n cap] 26)).alloc (.cells x.arr 42)).alloc (.cells #[.int .i64 0, .slice none 0 0] 26)).cell? ⟨w.heap.size + 2, o, none⟩ = #[.int .i64 0, .slice none 0 0][o]? := fun o => by
    rw [World.cell?_alloc_at _ _ _ _ (by simp)]
  refine ⟨s1 0, s1 1, (s2 0).trans h0, (s2 1).trans h1, (s2 2).trans h2, ?_, s3 0, s3 1, ?_, ?_, by simp⟩
  · rw [rowAt_alloc_past _ _ _ _ _ (by simp), rowAt_alloc_at _ _ _ _ _ _ (by simp), h3]
  · rw [World.frozen?_alloc_at _ _ _ _ (by simp)]
  · rw [World.frozen?_alloc_at _ _ _ _ (by simp)]
theorem Ap.later {B : Nat} {ep : Int} {A : Option Addr} {n cap : Nat} {x : Chg} {w w' : World} (I : Ap B ep A n cap x w) (hb : Below w.heap.size w w') : Ap B ep A n cap x w' := by
  have hs := I.sz
  have hc : ∀ b o, b < w.heap.size → w'.cell? ⟨b, o, none⟩ = w.cell? ⟨b, o, none⟩ := fun b o h => hb.cell (p := ⟨b, o, none⟩) h
  have hf : ∀ b o, b < w.heap.size → w'.frozen? ⟨b, o, none⟩ = w.frozen? ⟨b, o, none⟩ := fun b o h => hb.frozen (p := ⟨b, o, none⟩) h
  exact ⟨(hc _ _ (by omega)).trans I.c0, (hc _ _ (by omega)).trans I.c1, (hc _ _ (by omega)).trans I.k0, (hc _ _ (by omega)).trans I.k1, (hc _ _ (by omega)).trans I.k2, (rowAt_below hb (by omega) _ _).trans I.kk,
    (hc _ _ (by omega)).trans I.r0, (hc _ _ (by omega)).trans I.r1, (hf _ _ (by omega)).trans I.f0, (hf _ _ (by omega)).trans I.f1, Nat.le_trans I.sz hb.size⟩


/-- the answer to come, in a block of its own -/
structure Out (B : Nat) (ep : Int) (v : Value) (n : Nat) (ms : List Mb) (O : Nat) (w0 w : World) : Prop where
  o0 : w.cell? ⟨O, 0, none⟩ = some (.int .i64 ep)
  o1 : w.cell? ⟨O, 1, none⟩ = some v
  g0 : w.frozen? ⟨O, 0, none⟩ = false
  g1 : w.frozen? ⟨O, 1, none⟩ = false
  own : w.ownsRow (w0.heap.size + 3) 60 34 v n (flatC Mb.cells ms)
  ne : v.ownBlock ≠ some O
  lo : w0.heap.size + 3 ≤ O
  hi : O < w.heap.size
  ob : ∃ cs, w.heap[O]? = some (.cells cs 26 (0, 0))
  bel : Below w0.heap.size w0 w
/-- behind the answer's begin -/
def Begun (ep : Int) (A : Option Addr) (n cap : Nat) (x : Chg) (ms : List Mb) (w0 : World) (s : Value) (w : World) : Prop :=
  ∃ O v, s = .pointer (some ⟨O, 0, none⟩) ∧ Ap w0.heap.size ep A n cap x w ∧ MS w A n ms ∧ Out w0.heap.size (ep + 1) v n ms O w0 w
theorem block_setCell (w : World) (a : Addr) (u : Value) (b : Nat) {t : TypeId} (h : ∃ cs, w.heap[b]? = some (.cells cs t (0, 0))) : ∃ cs, (w.setCell a u).heap[b]? = some (.cells cs t (0, 0)) := by
  obtain ⟨cs, h⟩ := h
  simp only [World.setCell, Array.getElem?_modify]
  by_cases e : a.block = b
  · rw [if_pos e, h]
    simp only [Option.map_some]
    split <;> exact ⟨_, rfl⟩
  · rw [if_neg e]; exact ⟨cs, h⟩
theorem begun_1 {ep : Int} {A A2 : Option Addr} {n cap cap2 : Nat} {x : Chg} {ms : List Mb} {w w1 w2 : World} (hI : Ap w.heap.size ep A n cap x w1) (hM : MS w1 A n ms) (hB : Below w.heap.size w w1)
    (hown : w2.ownsRow w1.drew.heap.size 60 34 (.slice A2 n cap2) n (flatC Mb.cells ms)) (hb : Below w1.drew.heap.size w1.drew w2) :
    Begun ep A n cap x ms w (.pointer (some ⟨w2.heap.size, 0, none⟩)) (w2.alloc (.cells #[.int .i64 (ep + 1), .slice A2 n cap2] 26)) := by
  have hd : w1.drew.heap.size = w1.heap.size := rfl
  have hlow : w1.heap.size ≤ w2.heap.size := hb.size
  have hsz := hI.sz
  have hb' : Below w1.heap.size w1 w2 := (Below.refl _ _).drew.trans (hd ▸ hb)
  have hb3 := hb'.alloc hlow (.cells #[.int .i64 (ep + 1), .slice A2 n cap2] 26)
  refine ⟨w2.heap.size, .slice A2 n cap2, rfl, hI.later hb3, hM.below hb3, ?_⟩
  have hown2 := World.ownsRow.alloc (hown.mono (by omega : w.heap.size + 3 ≤ w1.drew.heap.size)) (.cells #[.int .i64 (ep + 1), .slice A2 n cap2] 26)
  refine ⟨?_, ?_, ?_, ?_, hown2, ?_, by omega, by simp, ⟨_, heap_alloc_new _ _⟩, hB.trans (hb3.mono (by omega))⟩
  · rw [World.cell?_alloc_at _ _ _ _ rfl]; rfl
  · rw [World.cell?_alloc_at _ _ _ _ rfl]; rfl
  · rw [World.frozen?_alloc_at _ _ _ _ rfl]
  · rw [World.frozen?_alloc_at _ _ _ _ rfl]
  · rcases hown.2 with ⟨h0, _⟩ | ⟨g, c, cur, hv, _, hg, _⟩
    · rw [h0]; simp [Value.ownBlock]
    · rw [hv]
      simp only [Value.ownBlock, ne_eq, Option.some.injEq]
      intro h
      rw [h] at hg
      simp at hg
theorem begun_2 {ep : Int} {A A2 : Option Addr} {n cap cap2 : Nat} {x : Chg} {ms : List Mb} {w w1 w2 : World} {o : Obj} (hI : Ap w.heap.size ep A n cap x w1) (hM : MS w1 A n ms) (hB : Below w.heap.size w w1)
    (hown : w2.ownsRow (w1.drew.alloc o).heap.size 60 34 (.slice A2 n cap2) n (flatC Mb.cells ms)) (hb : Below (w1.drew.alloc o).heap.size (w1.drew.alloc o) w2)
    {u0 u1 : Value} (o0 : w2.cell? ⟨w1.heap.size, 0, none⟩ = some u0) (o1 : w2.cell? ⟨w1.heap.size, 1, none⟩ = some u1) (p0 : w2.frozen? ⟨w1.heap.size, 0, none⟩ = false) (p1 : w2.frozen? ⟨w1.heap.size, 1, none⟩ = false) (ho : ∃ cs, o = .cells cs 26 (0, 0)) :
    Begun ep A n cap x ms w (.pointer (some ⟨w1.heap.size, 0, none⟩)) ((w2.setCell ⟨w1.heap.size, 0, none⟩ (.int .i64 (ep + 1))).setCell ⟨w1.heap.size, 1, none⟩ (.slice A2 n cap2)) := by
  have hd : w1.drew.heap.size = w1.heap.size := rfl
  have hlow : w1.heap.size + 1 ≤ w2.heap.size := by have := hb.size; simpa using this
  have hsz := hI.sz
  have hb' : Below w1.heap.size w1 w2 := ((Below.refl _ _).drew.alloc (by simp) o).trans (hb.mono (by simp))
  have hb3 := (hb'.setCell (p := ⟨w1.heap.size, 0, none⟩) (Nat.le_refl _) (.int .i64 (ep + 1))).setCell (p := ⟨w1.heap.size, 1, none⟩) (Nat.le_refl _) (.slice A2 n cap2)
  refine ⟨w1.heap.size, .slice A2 n cap2, rfl, hI.later hb3, hM.below hb3, ?_⟩
  have hne : (Value.slice A2 n cap2).ownBlock ≠ some w1.heap.size := by
    rcases hown.2 with ⟨h0, _⟩ | ⟨g, c, cur, hv, hlo, hg, _⟩
    · rw [h0]; simp [Value.ownBlock]
    · rw [hv]
      simp only [Value.ownBlock, ne_eq, Option.some.injEq]
      intro h
      rw [h] at hlo
      simp at hlo
      omega
  have hown2 := ownsRow_setCell_other (a := ⟨w1.heap.size, 1, none⟩) (ownsRow_setCell_other (a := ⟨w1.heap.size, 0, none⟩) (hown.mono (by simp; omega : w.heap.size + 3 ≤ (w1.drew.alloc o).heap.size)) hne (.int .i64 (ep + 1))) hne (.slice A2 n cap2)
  refine ⟨?_, ?_, ?_, ?_, hown2, hne, by omega, by simp; omega, ?_, hB.trans (hb3.mono (by omega))⟩
  rotate_right
  · obtain ⟨cs, rfl⟩ := ho
    have h1 := (hb.block w1.heap.size (by simp)).trans (heap_alloc_new w1.drew _)
    exact block_setCell _ _ _ _ (block_setCell _ _ _ _ ⟨_, h1⟩)
  · rw [World.cell?_setCell_other (h := by simp), World.cell?_setCell_same (h := o0)]
  · rw [World.cell?_setCell_same (u := u1) (h := by rw [World.cell?_setCell_other (h := by simp), o1])]
  · simp [World.frozen?_setCell, p0]
  · simp [World.frozen?_setCell, p1]

/-- what Apply holds once the new member is made -/
structure St (ep : Int) (A : Option Addr) (n cap : Nat) (x : Chg) (O M : Nat) (m : Mb) (v : Value) (n2 : Nat) (ms2 : List Mb) (w0 w : World) : Prop where
  I : Ap w0.heap.size ep A n cap x w
  U : Out w0.heap.size (ep + 1) v n2 ms2 O w0 w
  row : w.heap[M]? = some (.cells m.arr 60 (0, 0))
  lo : w0.heap.size + 3 ≤ M
  hO : O < M
  neM : v.ownBlock ≠ some M
theorem own_alike {w w' : World} {B e sz n : Nat} {v : Value} {xs : List Value} (h : w.ownsRow B e sz v n xs) (hh : ∀ g, g < w.heap.size → w'.heap[g]? = w.heap[g]?) : w'.ownsRow B e sz v n xs := by
  refine ⟨h.1, ?_⟩
  rcases h.2 with h0 | ⟨g, c, cur, hv, hlo, hg, r⟩
  · exact .inl h0
  · exact .inr ⟨g, c, cur, hv, hlo, (hh g (by rw [Array.getElem?_eq_some_iff] at hg; exact hg.1)).trans hg, r⟩
theorem Out.later {B n O : Nat} {ep : Int} {v : Value} {ms : List Mb} {w0 w w' : World} (U : Out B ep v n ms O w0 w) (hb : Below w.heap.size w w') : Out B ep v n ms O w0 w' := by
  obtain ⟨o0, o1, g0, g1, own, ne, lo, hi, ⟨cs, ob⟩, bel⟩ := U
  exact ⟨(hb.cell (p := ⟨O, 0, none⟩) hi).trans o0, (hb.cell (p := ⟨O, 1, none⟩) hi).trans o1, (hb.frozen (p := ⟨O, 0, none⟩) hi).trans g0, (hb.frozen (p := ⟨O, 1, none⟩) hi).trans g1,
    own_alike own (fun g hg => hb.block g hg), ne, lo, Nat.lt_of_lt_of_le hi hb.size, ⟨cs, (hb.block O hi).trans ob⟩, bel.trans (hb.mono (by omega))⟩
theorem St.later {ep : Int} {A : Option Addr} {n cap O M n2 : Nat} {x : Chg} {ms2 : List Mb} {m : Mb} {v : Value} {w0 w w' : World} (S : St ep A n cap x O M m v n2 ms2 w0 w) (hb : Below w.heap.size w w') : St ep A n cap x O M m v n2 ms2 w0 w' :=
  ⟨S.I.later hb, S.U.later hb, (hb.block M (by have := S.row; rw [Array.getElem?_eq_some_iff] at this; exact this.1)).trans S.row, S.lo, S.hO, S.neM⟩
theorem St.start {ep : Int} {A : Option Addr} {n cap O n2 : Nat} {x : Chg} {ms2 : List Mb} {v : Value} {w0 w : World} (I : Ap w0.heap.size ep A n cap x w) (U : Out w0.heap.size (ep + 1) v n2 ms2 O w0 w) (m : Mb) :
    St ep A n cap x O w.heap.size m v n2 ms2 w0 (w.alloc (.cells m.arr 60)) := by
  have hb : Below w.heap.size w (w.alloc (.cells m.arr 60)) := (Below.refl _ _).alloc (Nat.le_refl _) _
  refine ⟨I.later hb, U.later hb, heap_alloc_new _ _, I.sz, U.hi, ?_⟩
  rcases U.own.2 with ⟨h0, _⟩ | ⟨g, c, cur, hv, hlo, hg, _⟩
  · rw [h0]; simp [Value.ownBlock]
  · rw [hv]
    simp only [Value.ownBlock, ne_eq, Option.some.injEq]
    intro h
    rw [h] at hg
    simp at hg
theorem cell_of_row {w : World} {b o : Nat} {cs : Array Value} {t : TypeId} {u : Value} (h : w.heap[b]? = some (.cells cs t (0, 0))) (hu : cs[o]? = some u) : w.cell? ⟨b, o, none⟩ = some u := by
  simp only [World.cell?, h]
  exact hu
theorem St.facts {ep : Int} {A : Option Addr} {n cap O M n2 : Nat} {x : Chg} {ms2 : List Mb} {m : Mb} {v : Value} {w0 w : World} (S : St ep A n cap x O M m v n2 ms2 w0 w) (hm : m.ok) :
    (w.cell? ⟨w0.heap.size, 0, none⟩ = some (.int .i64 ep) ∧ w.cell? ⟨w0.heap.size, 1, none⟩ = some (.slice A n cap) ∧ w.cell? ⟨w0.heap.size + 1, 0, none⟩ = some (.int .i64 x.kind) ∧ w.cell? ⟨w0.heap.size + 1, 1, none⟩ = some (.int .i64 x.id)) ∧
    (w.cell? ⟨w0.heap.size + 2, 0, none⟩ = some (.int .i64 0) ∧ w.cell? ⟨w0.heap.size + 2, 1, none⟩ = some (.slice none 0 0) ∧ w.frozen? ⟨w0.heap.size + 2, 0, none⟩ = false ∧ w.frozen? ⟨w0.heap.size + 2, 1, none⟩ = false) ∧
    (w.cell? ⟨O, 0, none⟩ = some (.int .i64 (ep + 1)) ∧ w.cell? ⟨O, 1, none⟩ = some v ∧ w.frozen? ⟨O, 0, none⟩ = false ∧ w.frozen? ⟨O, 1, none⟩ = false) ∧ w.cell? ⟨M, 0, none⟩ = some (.int .i64 m.id) ∧ rowAt w M 0 34 = some m.arr :=
  ⟨⟨S.I.c0, S.I.c1, S.I.k0, S.I.k1⟩, ⟨S.I.r0, S.I.r1, S.I.f0, S.I.f1⟩, ⟨S.U.o0, S.U.o1, S.U.g0, S.U.g1⟩, cell_of_row S.row m.at0, by unfold rowAt; rw [S.row]; exact Mb.cut hm⟩

/-- where a member is, or would be -/
def posI (ms : List Mb) (id : Int) : Nat := (ms.takeWhile (fun m => decide (m.id < id))).length
def hasB (ms : List Mb) (id : Int) : Bool := ms.any (fun m => m.id == id)
def memOf (x : Chg) : Mb := ⟨if x.kind = 3 then x.nw else x.id, x.key⟩
/-- Apply's word -/
def appE (ep : Int) (ms : List Mb) (x : Chg) : Int :=
  if goodB ep ms = true ∧ 1 ≤ x.kind ∧ x.kind ≤ 4 ∧ ep ≠ 1073741824 then
    if x.kind ≠ 2 ∧ rightB (memOf x) = false then 1
    else if x.kind ≠ 1 ∧ hasB ms x.id = false then 7
    else if (x.kind = 1 ∨ x.kind = 3) ∧ hasB ms (memOf x).id = true then 9
    else if x.kind = 1 ∧ ms.length = 10 then 11
    else if x.kind = 2 ∧ ms.length = 1 then 10
    else 0
  else 1
/-- the members behind a change -/
def appL (ms : List Mb) (x : Chg) : List Mb :=
  let l := if x.kind = 1 then ms else ms.eraseIdx (posI ms x.id)
  if x.kind = 2 then l else l.take (posI l (memOf x).id) ++ memOf x :: l.drop (posI l (memOf x).id)
def appR (ep : Int) (ms : List Mb) (x : Chg) : List Mb := if appE ep ms x = 0 then appL ms x else []
/-- what Apply answers -/
def Applied (ep : Int) (E : Int) (L : List Mb) (w : World) (e : Ending) (w' : World) : Prop :=
  ∃ v, e = .returned (.tuple #[.agg #[.int .i64 (if E = 0 then ep + 1 else 0), v], .int .i64 E]) ∧ w'.ownsRow w.heap.size 60 34 v L.length (flatC Mb.cells L) ∧ OkAll L ∧ Below w.heap.size w w'
theorem Applied.not {ep E : Int} {w w' : World} (hE : E ≠ 0) (hb : Below w.heap.size w w') : Applied ep E [] w (.returned (.tuple #[.agg #[.int .i64 0, .slice none 0 0], .int .i64 E])) w' :=
  ⟨_, by rw [if_neg hE], World.ownsRow_nil _ _ _ _, fun m hm => absurd hm (by simp), hb⟩

theorem cell_alike {w w' : World} {b o : Nat} (h : w'.heap[b]? = w.heap[b]?) : w'.cell? ⟨b, o, none⟩ = w.cell? ⟨b, o, none⟩ := World.cell?_of_block (a := ⟨b, o, none⟩) h
theorem frozen_alike {w w' : World} {b o : Nat} (h : w'.heap[b]? = w.heap[b]?) : w'.frozen? ⟨b, o, none⟩ = w.frozen? ⟨b, o, none⟩ := World.frozen?_of_block (a := ⟨b, o, none⟩) h
theorem heap_setCell_ne (w : World) (a : Addr) (u : Value) {k : Nat} (h : k ≠ a.block) : (w.setCell a u).heap[k]? = w.heap[k]? := by
  simp only [World.setCell, Array.getElem?_modify]
  rw [if_neg (Ne.symm h)]
theorem Ap.alike {B : Nat} {ep : Int} {A : Option Addr} {n cap : Nat} {x : Chg} {w w' : World} (I : Ap B ep A n cap x w) (hh : ∀ k, k < B + 3 → w'.heap[k]? = w.heap[k]?) (hs : B + 3 ≤ w'.heap.size) : Ap B ep A n cap x w' :=
  ⟨(cell_alike (hh _ (by omega))).trans I.c0, (cell_alike (hh _ (by omega))).trans I.c1, (cell_alike (hh _ (by omega))).trans I.k0, (cell_alike (hh _ (by omega))).trans I.k1, (cell_alike (hh _ (by omega))).trans I.k2,
    (rowAt_of_block (hh _ (by omega)) _ _).trans I.kk, (cell_alike (hh _ (by omega))).trans I.r0, (cell_alike (hh _ (by omega))).trans I.r1, (frozen_alike (hh _ (by omega))).trans I.f0, (frozen_alike (hh _ (by omega))).trans I.f1, hs⟩
theorem own_lo {w : World} {B e sz n : Nat} {v : Value} {xs : List Value} (h : w.ownsRow B e sz v n xs) : ∀ k, v.ownBlock = some k → B ≤ k := by
  intro k hk
  rcases h.2 with ⟨h0, _⟩ | ⟨g, c, cur, hv, hlo, _⟩
  · rw [h0] at hk; simp [Value.ownBlock] at hk
  · rw [hv] at hk; simp only [Value.ownBlock, Option.some.injEq] at hk; omega
/-- whatever has been made of the row, the rest stands; the answer's place then holds the new row -/
theorem St.turn {ep : Int} {A : Option Addr} {n cap O M n2 n3 : Nat} {x : Chg} {ms2 ms3 : List Mb} {m : Mb} {v v' : Value} {w0 w w' : World} (S : St ep A n cap x O M m v n2 ms2 w0 w)
    (hg : w.grownBy w' v.ownBlock) (hown : w'.ownsRow (w0.heap.size + 3) 60 34 v' n3 (flatC Mb.cells ms3)) :
    (w'.cell? ⟨O, 1, none⟩ = some v ∧ w'.frozen? ⟨O, 1, none⟩ = false ∧ (w'.cell? ⟨w0.heap.size + 1, 0, none⟩ = some (.int .i64 x.kind))) ∧
    Ap w0.heap.size ep A n cap x (w'.setCell ⟨O, 1, none⟩ v') ∧ Out w0.heap.size (ep + 1) v' n3 ms3 O w0 (w'.setCell ⟨O, 1, none⟩ v') ∧ (w'.setCell ⟨O, 1, none⟩ v').heap[M]? = some (.cells m.arr 60 (0, 0)) := by
  have hlo := own_lo S.U.own
  have hsz := S.I.sz
  have hOlo := S.U.lo
  have hMO := S.hO
  have hMs : M < w.heap.size := by have := S.row; rw [Array.getElem?_eq_some_iff] at this; exact this.1
  have hgs := hg.size
  have hO : w'.heap[O]? = w.heap[O]? := hg.block O S.U.hi (fun e => S.U.ne e.symm)
  have hlow : ∀ k, k < w0.heap.size + 3 → w'.heap[k]? = w.heap[k]? := fun k hk => hg.block k (by omega) (fun e => by have := hlo k e.symm; omega)
  have hM : w'.heap[M]? = w.heap[M]? := hg.block M hMs (fun e => S.neM e.symm)
  have ob := S.U.ob
  rw [← hO] at ob
  have hne : v'.ownBlock ≠ some O := by
    rcases hown.2 with ⟨h0, _⟩ | ⟨g, c, cur, hv, hlo', hg', _⟩
    · rw [h0]; simp [Value.ownBlock]
    · rw [hv]
      simp only [Value.ownBlock, ne_eq, Option.some.injEq]
      intro e
      obtain ⟨cs, ob⟩ := ob
      rw [e, ob] at hg'
      simp at hg'
  have h1 : w'.cell? ⟨O, 1, none⟩ = some v := (cell_alike hO).trans S.U.o1
  refine ⟨⟨h1, (frozen_alike hO).trans S.U.g1, (cell_alike (hlow _ (by omega))).trans S.I.k0⟩, ?_, ⟨?_, ?_, ?_, ?_, ownsRow_setCell_other hown hne _, hne, hOlo, ?_, block_setCell _ _ _ _ ob, ?_⟩, ?_⟩
  · exact S.I.alike (fun k hk => (heap_setCell_ne _ _ _ (show k ≠ O by omega)).trans (hlow k hk)) (by simp; omega)
  · rw [World.cell?_setCell_other (h := by simp)]; exact (cell_alike hO).trans S.U.o0
  · exact World.cell?_setCell_same (h := h1) ..
  · rw [World.frozen?_setCell]; exact (frozen_alike hO).trans S.U.g0
  · rw [World.frozen?_setCell]; exact (frozen_alike hO).trans S.U.g1
  · have := S.U.hi; simp; omega
  · exact (S.U.bel.grown hg (by omega) (fun k hk => by have := hlo k hk; omega)).setCell (p := ⟨O, 1, none⟩) (show w0.heap.size ≤ O by omega) _
  · rw [heap_setCell_ne _ _ _ (show M ≠ O by omega), hM]; exact S.row
/-- the answer -/
theorem applied_ok {ep : Int} {A : Option Addr} {n cap O n3 : Nat} {x : Chg} {ms3 : List Mb} {v : Value} {w0 w : World} (I : Ap w0.heap.size ep A n cap x w) (U : Out w0.heap.size (ep + 1) v n3 ms3 O w0 w) (hok : OkAll ms3) (hl : ms3.length = n3) :
    Applied ep 0 ms3 w0 (.returned (.tuple #[.agg #[.int .i64 (ep + 1), v], .int .i64 0])) ((w.setCell ⟨w0.heap.size + 2, 0, none⟩ (.int .i64 (ep + 1))).setCell ⟨w0.heap.size + 2, 1, none⟩ v) := by
  have hlo := own_lo U.own
  have hne : v.ownBlock ≠ some (w0.heap.size + 2) := fun e => by have := hlo _ e; omega
  refine ⟨v, by rw [if_pos rfl], ?_, hok, (U.bel.setCell (p := ⟨w0.heap.size + 2, 0, none⟩) (by simp) _).setCell (p := ⟨w0.heap.size + 2, 1, none⟩) (by simp) _⟩
  rw [hl]
  exact ownsRow_setCell_other (a := ⟨w0.heap.size + 2, 1, none⟩) (ownsRow_setCell_other (a := ⟨w0.heap.size + 2, 0, none⟩) (U.own.mono (by omega)) hne _) hne _
theorem applied_not {ep E : Int} {w0 w : World} {u u' : Value} (hb : Below w0.heap.size w0 w) (hE : E ≠ 0) :
    Applied ep E [] w0 (.returned (.tuple #[.agg #[.int .i64 0, .slice none 0 0], .int .i64 E])) ((w.setCell ⟨w0.heap.size + 2, 0, none⟩ u).setCell ⟨w0.heap.size + 2, 1, none⟩ u') :=
  Applied.not hE ((hb.setCell (p := ⟨w0.heap.size + 2, 0, none⟩) (by simp) _).setCell (p := ⟨w0.heap.size + 2, 1, none⟩) (by simp) _)
theorem own_some {w : World} {B e sz n : Nat} {v : Value} {xs : List Value} (h : w.ownsRow B e sz v n xs) (hv : 0 < n ∨ v.ownBlock ≠ none) : ∃ g cap, v = .slice (some ⟨g, 0, none⟩) n cap := by
  rcases h.2 with ⟨h0, h1⟩ | ⟨g, c, cur, hv', _⟩
  · rcases hv with hv | hv
    · omega
    · rw [h0] at hv; simp [Value.ownBlock] at hv
  · exact ⟨g, c, hv'⟩

theorem wrap_succ {i n : Nat} (h : i < n) (hn : n ≤ 140737488355328) : wrap64 ((i : Int) + 1) = i + 1 := by unfold wrap64; omega
theorem small_pred {n : Nat} (hn : n ≤ 140737488355328) : n - 1 ≤ 140737488355328 := by omega
theorem small_ins {i n : Nat} (hn : n * 48 ≤ 140737488355328) (h : i < n) : (n - 1 + 1) * 48 ≤ 140737488355328 := by omega
theorem small_back {i n : Nat} (hn : n ≤ 140737488355328) (h : i < n) : n - 1 + 1 ≤ 140737488355328 := by omega
theorem ok_ins {l : List Mb} {m : Mb} (h : OkAll l) (hm : m.ok) (j : Nat) : OkAll (l.take j ++ m :: l.drop j) := by
  intro k hk
  rw [List.mem_append, List.mem_cons] at hk
  rcases hk with hk | rfl | hk
  · exact h k (List.mem_of_mem_take hk)
  · exact hm
  · exact h k (List.mem_of_mem_drop hk)
theorem own_hi {w : World} {B e sz n : Nat} {v : Value} {xs : List Value} (h : w.ownsRow B e sz v n xs) : ∀ k, v.ownBlock = some k → k < w.heap.size := by
  intro k hk
  rcases h.2 with ⟨h0, _⟩ | ⟨g, c, cur, hv, hlo, hg, _⟩
  · rw [h0] at hk; simp [Value.ownBlock] at hk
  · rw [hv] at hk; simp only [Value.ownBlock, Option.some.injEq] at hk; subst hk
    rw [Array.getElem?_eq_some_iff] at hg; exact hg.1
theorem len_ins {l : List Mb} {m : Mb} {j k : Nat} (hl : l.length = k) (hj : j ≤ k) : (l.take j ++ m :: l.drop j).length = k + 1 := by
  simp; omega
theorem small_62 {n : Nat} (hn : n ≤ 140737488355328) : n ≤ 4611686018427387904 := by omega
theorem takeWhile_pos {n i : Nat} {id : Int} {ms : List Mb} (hn : ms.length = n) (hi : i ≤ n) (hlt : ∀ j, j < i → (ms.getD j default).id < id) (hge : ∀ j, i ≤ j → j < n → id ≤ (ms.getD j default).id) : i = posI ms id := by
  induction ms generalizing i n with
  | nil => simp at hn; subst hn; unfold posI; simp; omega
  | cons m ms ih =>
    unfold posI
    rw [List.takeWhile_cons]
    simp only [List.length_cons] at hn
    cases i with
    | zero =>
      have := hge 0 (by omega) (by omega)
      simp only [List.getD_cons_zero] at this
      rw [if_neg (by simp; omega)]
      rfl
    | succ i =>
      have := hlt 0 (by omega)
      simp only [List.getD_cons_zero] at this
      rw [if_pos (by simp; omega), List.length_cons]
      have := ih (n := n - 1) (i := i) (by omega) (by omega) (fun j hj => by have := hlt (j + 1) (by omega); simpa using this) (fun j h1 h2 => by have := hge (j + 1) (by omega) (by omega); simpa using this)
      unfold posI at this
      omega
theorem hasB_of {n k : Nat} {id : Int} {ms : List Mb} (hn : ms.length = n) (hk : k < n) (h : (ms.getD k default).id = id) : hasB ms id = true := by
  unfold hasB
  rw [List.any_eq_true]
  refine ⟨ms.getD k default, ?_, by rw [beq_iff_eq]; exact h⟩
  rw [List.getD_eq_getElem?_getD, List.getElem?_eq_getElem (by omega)]
  simp
theorem hasB_none {n : Nat} {id : Int} {ms : List Mb} (hn : ms.length = n) (h : ∀ j, j < n → (ms.getD j default).id ≠ id) : hasB ms id = false := by
  unfold hasB
  rw [List.any_eq_false]
  intro m hm
  obtain ⟨j, hj, rfl⟩ := List.mem_iff_getElem.1 hm
  have := h j (by omega)
  rw [List.getD_eq_getElem?_getD, List.getElem?_eq_getElem (by omega)] at this
  simpa using this
theorem hasB_ex {n : Nat} {id : Int} {ms : List Mb} (hn : ms.length = n) (h : hasB ms id = true) : ∃ k, k < n ∧ (ms.getD k default).id = id := by
  unfold hasB at h
  rw [List.any_eq_true] at h
  obtain ⟨m, hm, he⟩ := h
  obtain ⟨j, hj, rfl⟩ := List.mem_iff_getElem.1 hm
  refine ⟨j, by omega, ?_⟩
  rw [List.getD_eq_getElem?_getD, List.getElem?_eq_getElem (by omega)]
  simpa using he
/-- find's word: whether there is such a member, and where -/
def FindEnd (ms : List Mb) (id : Int) (n : Nat) (w : World) (e : Ending) (w' : World) : Prop :=
  ∃ i : Nat, e = .returned (.tuple #[.int .i64 (i : Int), .bool (hasB ms id)]) ∧ i ≤ n ∧ (hasB ms id = true → i < n) ∧ (hasB ms id = true ∨ (0 ≤ id ∧ id ≤ 64) → i = posI ms id) ∧ Below w.heap.size w w'
theorem find_p (ep : Int) (A : Option Addr) (n cap : Nat) (ms : List Mb) (id : Int) (w : World) (h : MS w A n ms) (hr : Rising ms n) (w1 : (Lit.int .i64 id).wf = true) :
    Calls Tryd.prog 70 #[.agg #[.int .i64 ep, .slice A n cap], .int .i64 id] w (FindEnd ms id n w) := by
  refine (find_any ep A n cap ms id w h hr w1).mono ?_
  rintro e w2 ⟨i, b, rfl, hi, ht, hf, hp, hb⟩
  have hbv : b = hasB ms id := by
    cases b with
    | true => obtain ⟨h1, h2⟩ := ht rfl; exact (hasB_of h.len h1 h2).symm
    | false => exact (hasB_none h.len (hf rfl)).symm
  subst hbv
  refine ⟨i, rfl, hi, fun hh => (ht hh).1, fun hh => ?_, hb⟩
  have hr2 : 0 ≤ id ∧ id ≤ 64 := by
    rcases hh with hh | hh
    · obtain ⟨k, hk, hid⟩ := hasB_ex h.len hh
      have := hr.lo k hk
      have := hr.hi k hk
      omega
    · exact hh
  exact takeWhile_pos h.len hi (hp hr2.1 hr2.2).1 (hp hr2.1 hr2.2).2
theorem rising_of_good {ep : Int} {ms : List Mb} {n : Nat} (hn : ms.length = n) (h : goodB ep ms = true) : Rising ms n := by
  unfold goodB at h
  rw [Bool.and_eq_true, decide_eq_true_eq, List.all_eq_true] at h
  have hf : ∀ i, i < n → fineB ms i = true := fun i hi => h.2 i (by simpa [hn] using hi)
  have hr : ∀ i, i < n → rightB (ms.getD i default) = true := fun i hi => by have := hf i hi; unfold fineB at this; rw [Bool.and_eq_true] at this; exact this.1
  refine ⟨fun j hj => ?_, fun j hj => ?_, fun j hj => ?_⟩
  · have := hr j hj; unfold rightB at this; simp at this; exact this.1
  · have := hr j hj; unfold rightB at this; simp at this; exact this.2.1
  · have := hf (j + 1) hj
    unfold fineB at this
    simp at this
    exact this.2
theorem Rising.erase {ms : List Mb} {n : Nat} (hn : ms.length = n) (h : Rising ms n) (i : Nat) (hi : i < n) : Rising (ms.eraseIdx i) (n - 1) := by
  have hg : ∀ j, j < n - 1 → (ms.eraseIdx i).getD j default = ms.getD (if j < i then j else j + 1) default := fun j hj => by
    rw [List.getD_eq_getElem?_getD, List.getD_eq_getElem?_getD, List.getElem?_eraseIdx]
    split <;> rfl
  refine ⟨fun j hj => ?_, fun j hj => ?_, fun j hj => ?_⟩
  · rw [hg j hj]; split <;> exact h.lo _ (by omega)
  · rw [hg j hj]; split <;> exact h.hi _ (by omega)
  · rw [hg j (by omega), hg (j + 1) hj]
    split <;> split
    · exact h.up _ (by omega)
    · exact h.lt (by omega) (by omega)
    · omega
    · exact h.up _ (by omega)

set_option maxHeartbeats 2000000 in
theorem apply_4 (ep : Int) (A : Option Addr) (n cap : Nat) (ms : List Mb) (id nw : Int) (key : Kb) (w : World) (h : MS w A n ms) (hx : (Chg.mk 4 id nw key).ok) (hg : goodB ep ms = true) (he : ep ≠ 1073741824)
    (hA : A = none → n = 0) (hs : ∀ a, A = some a → a.spot = none) (hb : n * 48 ≤ 140737488355328) (e0 : 0 ≤ ep) (e1 : ep ≤ 1073741824) :
    Calls Tryd.prog 50 #[.agg #[.int .i64 ep, .slice A n cap], .agg (Chg.mk 4 id nw key).arr] w (Applied ep (appE ep ms ⟨4, id, nw, key⟩) (appR ep ms ⟨4, id, nw, key⟩) w) := by
  generalize hX : Chg.mk 4 id nw key = x at *
  have hk : x.kind = 4 := by rw [← hX]
  have hB := ((((Below.refl w.heap.size w).alloc (Nat.le_refl _) (.cells #[.int .i64 ep, .slice A n cap] 26)).alloc (by simp) (.cells x.arr 42)).alloc (by simp; omega) (.cells #[.int .i64 0, .slice none 0 0] 26))
  have H := Lib.hid (h.below hB)
  have I0 := Ap.start w ep A n cap hx
  have hne : (ep == 1073741824) = false := by rw [beq_eq_false_iff_ne]; exact he
  have hne' := Lib.hid he
  have hw : wrap64 (ep + 1) = ep + 1 := by unfold wrap64; omega
  have hok := Lib.hid (show OkAll ms from h.ok)
  have hlen := Lib.hid h.len
  have hb48 := Lib.hid hb
  have HR := Lib.hid (rising_of_good h.len hg)
  have hsm := Lib.hid h.small
  have hwi : IntKind.i64.wrap (ep + 1) = ep + 1 := by rw [IntKind.wrap_i64]; omega
  clear h he
  go_enter Tryd.func50, Tryd.ntmps50
  go_wp2_with fail
  refine (good_any ep A n cap ms _ H.out).mono ?_
  rw [hg]
  rintro e w1 ⟨rfl, hb1⟩
  have H1 := Lib.hid (H.out.below hb1)
  have I1 := Lib.hid (I0.later hb1)
  obtain ⟨c0, c1, x0, x1, x2, xk, r0, r1, f0, f1, sz⟩ := I0.later hb1
  rw [hk] at x0
  have hB1 := hB.trans (hb1.mono (by simp; omega))
  have ne1 : ¬ w1.heap.size = w.heap.size := by omega
  have ne2 : ¬ w.heap.size = w1.heap.size := by omega
  clear I0 hB
  go_upto_region 3 with fail
  go_cut [6] (fun s6 wx => Begun ep A n cap x ms w s6 wx)
  case first =>
    go_region_held3 (fun w' => w'.cell? ⟨w.heap.size, 0, none⟩ = some (.int .i64 ep) ∧ w'.cell? ⟨w.heap.size, 1, none⟩ = some (.slice A n cap)) (first | exact ⟨c0, c1⟩ | exact ⟨c0', c1'⟩ | go_keep)
      (first
        | (go_at_call 62; refine (clone_any A n cap ms _ (H1.out.below (Below.refl _ _).drew) hb hA hs).mono ?_; rintro e w2 ⟨v, rfl, hown, hb2⟩; obtain ⟨A2, cap2, rfl, -⟩ := MS_of_own hown hok.out hsm.out; have HO := Lib.hid hown; clear hown
           have c0' := (hb2.cell (p := ⟨w.heap.size, 0, none⟩) (by simp; omega)).trans c0; have c1' := (hb2.cell (p := ⟨w.heap.size, 1, none⟩) (by simp; omega)).trans c1)
        | (go_at_call 62; refine (clone_any A n cap ms _ (H1.out.below ((Below.refl _ _).drew.alloc (by simp) _)) hb hA hs).mono ?_; rintro e w2 ⟨v, rfl, hown, hb2⟩; obtain ⟨A2, cap2, rfl, -⟩ := MS_of_own hown hok.out hsm.out; have HO := Lib.hid hown; clear hown
           have c0' := (hb2.cell (p := ⟨w.heap.size, 0, none⟩) (by simp; omega)).trans (show _ = some (Value.int .i64 ep) by rw [World.cell?_alloc_past _ _ _ (by simp; omega)]; exact c0); have c1' := (hb2.cell (p := ⟨w.heap.size, 1, none⟩) (by simp; omega)).trans (show _ = some (Value.slice A n cap) by rw [World.cell?_alloc_past _ _ _ (by simp; omega)]; exact c1)
           have o0 := (hb2.cell (p := ⟨w1.heap.size, 0, none⟩) (by simp)).trans (World.cell?_alloc_at _ _ _ _ rfl)
           have o1 := (hb2.cell (p := ⟨w1.heap.size, 1, none⟩) (by simp)).trans (World.cell?_alloc_at _ _ _ _ rfl)
           have p0 := (hb2.frozen (p := ⟨w1.heap.size, 0, none⟩) (by simp)).trans (World.frozen?_alloc_at _ _ _ _ rfl)
           have p1 := (hb2.frozen (p := ⟨w1.heap.size, 1, none⟩) (by simp)).trans (World.frozen?_alloc_at _ _ _ _ rfl)
           simp at o0 o1 p0 p1))
    all_goals (go_wp2_with fail; go_meet; case rel => first | exact begun_1 I1.out H1.out hB1 HO.out hb2 | exact begun_2 I1.out H1.out hB1 HO.out hb2 o0 o1 p0 p1 ⟨_, rfl⟩)

  case rest =>
    clear c0 c1 x0 x1 x2 xk r0 r1 f0 f1 sz I1 H1 hB1 ne1 ne2 hb1 H hb e0 e1 hw hwi hne
    obtain ⟨O, v, rfl, I, M, U⟩ := hcut
    obtain ⟨A2, cap2, rfl, M2⟩ := MS_of_own U.own hok.out hsm.out
    have S4 := St.start I U (Mb.mk x.id x.key)
    have M4 := M.below ((Below.refl wc.heap.size wc).alloc (Nat.le_refl _) (.cells (Mb.mk x.id x.key).arr 60))
    obtain ⟨c0, c1, x0, x1, x2, xk, r0, r1, f0, f1, sz⟩ := I
    rw [hk] at x0
    have hmo : (Mb.mk x.id x.key).ok := ⟨hx.key, hx.id⟩
    have hms := Mb.sz hmo
    have hmi := Mb.ones (Mb.mk x.id x.key)
    have hkk := hx.key
    clear M U M2
    obtain ⟨⟨c0, c1, x0, x1⟩, ⟨r0, r1, f0, f1⟩, ⟨o0, o1, g0, g1⟩, m0, mr⟩ := S4.facts hmo
    rw [hk] at x0
    go_wp2_with fail
    refine (right_any hmo _).mono ?_
    rintro e w5 ⟨rfl, hb5⟩
    have S5 := S4.later hb5
    have M5 := Lib.hid (M4.below hb5)
    clear c0 c1 x0 x1 r0 r1 f0 f1 o0 o1 g0 g1 m0 mr
    obtain ⟨⟨c0, c1, x0, x1⟩, ⟨r0, r1, f0, f1⟩, ⟨o0, o1, g0, g1⟩, m0, mr⟩ := S5.facts hmo
    rw [hk] at x0
    clear S4 M4 hb5
    cases hr : rightB (Mb.mk x.id x.key) with
    | false =>
      go_wp2_with fail
      refine bodyPost_ret (v := .tuple #[.agg #[.int .i64 0, .slice none 0 0], .int .i64 1]) (by rw [results_cell2 Tryd.results50]; simp [go_sem, *]) rfl ?_
      have hE : appE ep ms x = 1 := by unfold appE memOf; rw [hk]; simp [hr]
      unfold appR; rw [hE]
      exact applied_not S5.U.bel (by decide)
    | true =>
      have hr2 := hr
      unfold rightB at hr2
      simp only [decide_eq_true_eq] at hr2
      go_wp2_with fail
      refine (find_p ep A n cap ms x.id _ M5.out HR.out hx.id).mono ?_
      rintro e w6 ⟨i, rfl, hi6, hin6, hp6, hb6⟩
      have S6 := S5.later hb6
      have M6 := Lib.hid (M5.out.below hb6)
      clear c0 c1 x0 x1 r0 r1 f0 f1 o0 o1 g0 g1 m0 mr
      obtain ⟨⟨c0, c1, x0, x1⟩, ⟨r0, r1, f0, f1⟩, ⟨o0, o1, g0, g1⟩, m0, mr⟩ := S6.facts hmo
      rw [hk] at x0
      clear S5 M5 hb6
      have HP6 := Lib.hid hp6
      have HI6 := Lib.hid hin6
      clear hp6 hin6
      go_wp2_with fail
      refine (find_p ep A n cap ms x.id _ M6.out HR.out hx.id).mono ?_
      rintro e w7 ⟨i', rfl, hi7, hin7, hp7, hb7⟩
      have S7 := S6.later hb7
      clear c0 c1 x0 x1 r0 r1 f0 f1 o0 o1 g0 g1 m0 mr
      obtain ⟨⟨c0, c1, x0, x1⟩, ⟨r0, r1, f0, f1⟩, ⟨o0, o1, g0, g1⟩, m0, mr⟩ := S7.facts hmo
      rw [hk] at x0
      clear S6 M6 hb7 hp7 hin7
      cases hh : hasB ms x.id with
      | false =>
        go_wp2_with fail
        refine bodyPost_ret (v := .tuple #[.agg #[.int .i64 0, .slice none 0 0], .int .i64 7]) (by rw [results_cell2 Tryd.results50]; simp [go_sem, *]) rfl ?_
        have hE : appE ep ms x = 7 := by unfold appE memOf; rw [hk]; simp [hg, hne'.out, hr, hh]
        unfold appR; rw [hE]
        exact applied_not S7.U.bel (by decide)
      | true =>
        have hlt := HI6.out hh
        have hpi := Lib.hid (HP6.out (.inl hh))
        obtain ⟨gv, cv, hv⟩ := own_some S7.U.own (.inl (by omega))
        cases hv
        have hwr := wrap_succ hlt hsm.out
        go_wp2_with fail
        refine (delete_any S7.U.own hok.out (small_62 hsm.out) hlt).mono ?_
        rintro e w8 ⟨v8, rfl, hown8, hbk8, hg8⟩
        obtain ⟨A8, cap8, rfl, -⟩ := MS_of_own hown8 (fun m hm => hok.out m (List.mem_of_mem_eraseIdx hm)) (small_pred hsm.out)
        obtain ⟨⟨p1, q1, y0⟩, I8, U8, row8⟩ := S7.turn hg8 hown8
        rw [hk] at y0
        have S8 : St ep A n cap x O wc.heap.size (Mb.mk x.id x.key) _ (n - 1) (ms.eraseIdx i) w _ := ⟨I8, U8, row8, S7.lo, S7.hO, by rw [hbk8]; exact S7.neM⟩
        clear c0 c1 x0 x1 r0 r1 f0 f1 o0 o1 g0 g1 m0 mr
        obtain ⟨⟨c0, c1, x0, x1⟩, ⟨r0, r1, f0, f1⟩, ⟨o0, o1, g0, g1⟩, m0, mr⟩ := S8.facts hmo
        rw [hk] at x0
        clear I8 U8 row8 S7 hg8 hown8
        have hl := S8.U.own
        have hok8 : OkAll (ms.eraseIdx i) := fun m hm => hok.out m (List.mem_of_mem_eraseIdx hm)
        obtain ⟨_, _, hcv, M8⟩ := MS_of_own S8.U.own hok8 (small_pred hsm.out)
        cases hcv
        have M8 := Lib.hid M8
        go_wp2_with fail
        refine (find_p (ep + 1) _ (n - 1) _ (ms.eraseIdx i) x.id _ M8.out (HR.out.erase hlen.out i hlt) hx.id).mono ?_
        rintro e w9 ⟨j, rfl, hj9, hin9, hp9, hb9⟩
        have hj := Lib.hid (hp9 (.inr (by omega)))
        have S9 := S8.later hb9
        have M9 := Lib.hid (M8.out.below hb9)
        clear c0 c1 x0 x1 r0 r1 f0 f1 o0 o1 g0 g1 m0 mr
        obtain ⟨⟨c0, c1, x0, x1⟩, ⟨r0, r1, f0, f1⟩, ⟨o0, o1, g0, g1⟩, m0, mr⟩ := S9.facts hmo
        rw [hk] at x0
        clear S8 M8 hb9 hp9 hin9 p1 q1 y0 hwr
        have hbs := bs_M1 hmo w9
        have hB9 := (Below.refl w9.heap.size w9).alloc (Nat.le_refl _) (.cells (Mb.mk x.id x.key).arr 60)
        have S10 := S9.later hB9
        obtain ⟨g9, c9, hcv⟩ := own_some S9.U.own (.inr (by rw [hbk8]; simp [Value.ownBlock]))
        cases hcv
        go_wp2_with fail
        refine (insert_any S10.U.own hok8 hmo hj9 (small_ins hb48.out hlt) (S10.I.sz) (heap_alloc_new _ _) ?_ ⟨_, _, rfl⟩).mono ?_
        · simp only [Value.ownBlock, ne_eq, Option.some.injEq]
          intro e
          have := own_hi S9.U.own g9 rfl
          omega
        rintro e w11 ⟨v11, rfl, hown11, hg11⟩
        obtain ⟨A11, cap11, rfl, -⟩ := MS_of_own hown11 (ok_ins hok8 hmo j) (small_back hsm.out hlt)
        obtain ⟨⟨p1, q1, y0⟩, I11, U11, row11⟩ := S10.turn hg11 hown11
        have z0 := I11.r0
        have z1 := I11.r1
        have z2 := I11.f0
        have z3 := I11.f1
        have z4 := U11.o0
        have z5 := U11.o1
        have hE : appE ep ms x = 0 := by unfold appE memOf; rw [hk]; simp [hg, hne'.out, hr, hh]
        have hL : appR ep ms x = (ms.eraseIdx i).take j ++ Mb.mk x.id x.key :: (ms.eraseIdx i).drop j := by
          unfold appR; rw [hE, if_pos rfl]; unfold appL memOf; rw [hk, ← hpi.out]; simp [← hj.out]
        have HL := Lib.hid hL
        have HE := Lib.hid hE
        clear hL hE S10 hbs hown11 hg11 S9 hl
        go_wp2_with fail
        refine bodyPost_ret (v := .tuple #[.agg #[.int .i64 (ep + 1), .slice A11 (n - 1 + 1) cap11], .int .i64 0]) (by rw [results_cell2 Tryd.results50]; simp [go_sem, *]) rfl ?_
        rw [HE.out, HL.out]
        exact applied_ok I11 U11 (ok_ins hok8 hmo j) (len_ins (by rw [List.length_eraseIdx, hlen.out, if_pos hlt]) hj9)

end Go.Proofs.YtfnfgnhbnffagaaDoor
