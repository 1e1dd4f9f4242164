/-
What walks over structs in memory share: worlds that have grown, regions that draw their order and make memory in their calls, rows of cells that are read and written whole. No program in sight.
-/
import Derived.Below
import Derived.Deep.MidRow
import Derived.Deep.WholeRow
import Derived.Deep.QuietTactic
import Derived.BigQuiet
import Derived.StillTailTactics
import Derived.RowKit
import Derived.WalkKit
namespace Go.Proofs.YtfnfgnhbnffagaaDoor
open Go.RowKit

/-- a world that has grown out of another one: below its blocks all is as it was -/
structure Later (W : World) where
  world : World
  below : Below W.heap.size W world

instance later_some (W : World) : Nonempty (Later W) := ⟨⟨W, Below.refl _ _⟩⟩

@[go_sem] theorem Later.cell? {W : World} (x : Later W) {b o : Nat} (h : b < W.heap.size) : x.world.cell? ⟨b, o, none⟩ = W.cell? ⟨b, o, none⟩ := x.below.cell (p := ⟨b, o, none⟩) h
@[go_sem] theorem Later.frozen? {W : World} (x : Later W) {b o : Nat} (h : b < W.heap.size) : x.world.frozen? ⟨b, o, none⟩ = W.frozen? ⟨b, o, none⟩ := x.below.frozen (p := ⟨b, o, none⟩) h

theorem Later.call {P : Program} {f : FuncId} {args : Array Value} {W : World} {x : Later W} {v : Value}
    (h : Calls P f args x.world fun e w' => e = .returned v ∧ Below x.world.heap.size x.world w') : Calls P f args x.world fun e w'' => e = .returned v ∧ ∃ y : Later W, w'' = y.world :=
  h.mono fun _ w' ⟨he, hb⟩ => ⟨he, ⟨w', x.below.trans (hb.mono x.below.size)⟩, rfl⟩

theorem wp_region_later_lit {P : Program} {id : Nat} {Q : Exit → Act → World → Prop} {a : Act} {w : World} {l : List Oper} (hm : P.follows .mixedOrders = true) (hB : Region.lexB .any l.toArray = true)
    (h : wpQuiet P l.toArray (fun w' => ∃ x : Later w, w' = x.world) (fun a' => ∀ w', (∃ x : Later w, w' = x.world) → Q .normal a' w') l a) : (Code.region id l.toArray true).wp P Q a w :=
  wp_region_quiet (C := fun w' => ∃ x : Later w, w' = x.world) hm hB ⟨⟨w.drew, (Below.refl _ _).drew⟩, rfl⟩ (by simpa using h)

theorem still_of_quiet {P : Program} {o : Oper} {a : Act} {w : World} {K : Act → Prop} (h : o.quiet P a (fun w' => w' = w) K) : o.still P a w K := by
  obtain ⟨v, h1, h2⟩ := h
  have h3 := h1 w rfl
  unfold Oper.quietAt at h3
  unfold Oper.still
  generalize (execOp a.eval o).run P w = r at *
  cases r with
  | ok n w' =>
    cases n <;> simp only [Oper.quietUpon] at h3 <;> simp only [Oper.stillUpon]
    case value u => exact ⟨h3.1, by rw [h3.2]; exact h2⟩
    case skip => exact ⟨h3.1, by rw [← h3.2]; exact h2⟩
    case enter f args => exact ⟨h3.1, v, h3.2, h2⟩
  | halt x w' => simp only [Oper.quietUpon] at h3
theorem wpStill_of_quiet {P : Program} {ops : Array Oper} {w : World} {Q : Act → Prop} : ∀ (l : List Oper) (a : Act), wpQuiet P ops (fun w' => w' = w) Q l a → wpStill P ops w Q l a
  | [], _, h => h
  | o :: r, a, h => by
    unfold wpQuiet at h
    unfold wpStill
    split
    · rename_i hw
      simp only [hw, if_true] at h
      obtain ⟨v, h1, h2⟩ := h
      exact still_of_quiet ⟨v, h1, wpStill_of_quiet r _ h2⟩
    · rename_i hw
      simp only [hw] at h
      exact wpStill_of_quiet r _ h
/-- a region that draws its order, and ends in what writes: the operations ahead of that only look -/
theorem wp_region_tail_lit {P : Program} {id : Nat} {Q : Exit → Act → World → Prop} {a : Act} {w : World} {l : List Oper} (n : Nat) (hm : P.follows .mixedOrders = true) (hB : Region.lexTailB .any l.toArray n = true)
    (h : wpQuiet P l.toArray (fun w' => w' = w.drew) (fun a' => wpList P l.toArray Q (l.drop n) a' w.drew) (l.take n) a) : (Code.region id l.toArray true).wp P Q a w :=
  wp_region_still_tail n hm hB (wpStill_of_quiet _ _ h)

/-- n cells of a block, from a place on -/
def cut (c : Array Value) (o n : Nat) : Option (Array Value) := if o + n ≤ c.size then some (c.extract o (o + n)) else none
def rowAt (w : World) (b o n : Nat) : Option (Array Value) :=
  match w.heap[b]? with
  | some (.cells c _ _) => cut c o n
  | _ => none

theorem cut_all (c : Array Value) (n : Nat) (h : c.size = n) : cut c 0 n = some c := by
  subst h; unfold cut; rw [if_pos (by omega)]; simp

@[go_sem] theorem rowAt_drew (w : World) (b o n : Nat) : rowAt w.drew b o n = rowAt w b o n := rfl
@[go_sem] theorem rowAt_drewN (w : World) (m b o n : Nat) : rowAt (w.drewN m) b o n = rowAt w b o n := rfl
theorem rowAt_of_block {w w' : World} {b : Nat} (h : w'.heap[b]? = w.heap[b]?) (o n : Nat) : rowAt w' b o n = rowAt w b o n := by unfold rowAt; rw [h]
theorem rowAt_below {B : Nat} {w w' : World} (h : Below B w w') {b : Nat} (hb : b < B) (o n : Nat) : rowAt w' b o n = rowAt w b o n := rowAt_of_block (h.block b hb) o n
@[go_sem] theorem rowAt_later {W : World} (x : Later W) {b : Nat} (o n : Nat) (h : b < W.heap.size) : rowAt x.world b o n = rowAt W b o n := rowAt_below x.below h o n
@[go_sem] theorem rowAt_alloc_at (w : World) (c : Array Value) (t : TypeId) (m o n : Nat) (h : m = w.heap.size) : rowAt (w.alloc (.cells c t)) m o n = cut c o n := by
  subst h; unfold rowAt; rw [heap_alloc_new]
@[go_sem] theorem rowAt_alloc_past (w : World) (ob : Obj) (m o n : Nat) (h : m < w.heap.size) : rowAt (w.alloc ob) m o n = rowAt w m o n :=
  rowAt_of_block (Below.heap_alloc w ob m h) o n
theorem rowAt_setCell (w : World) (a : Addr) (v : Value) (b o n : Nat) (h : b ≠ a.block) : rowAt (w.setCell a v) b o n = rowAt w b o n :=
  rowAt_of_block (heap_setCell_other w a b v h) o n

theorem rangeAt_of_rowAt {w : World} {b o n : Nat} {cs : Array Value} (h : rowAt w b o n = some cs) : w.rangeAt b o cs.toList ∧ cs.size = n := by
  unfold rowAt at h
  split at h
  · rename_i c t fr hb
    unfold cut at h
    split at h
    · rename_i hs
      injection h with h
      subst h
      exact ⟨World.rangeAt_of_block hb o n, by simp; omega⟩
    · cases h
  · cases h
theorem rowAt_of_rangeAt {w : World} {b o n : Nat} {cs : List Value} (h : w.rangeAt b o cs) (hn : cs.length = n) (h0 : 0 < n) : rowAt w b o n = some cs.toArray := by
  have hl := h (n - 1) (cs[n - 1]'(by omega)) (List.getElem?_eq_getElem (by omega))
  unfold rowAt
  cases hb : w.heap[b]? with
  | none => simp [World.cell?, hb] at hl
  | some ob =>
    cases ob <;> first | (simp [World.cell?, hb] at hl; done) | skip
    rename_i c t fr
    simp only
    have hc : ∀ j v, cs[j]? = some v → c[o + j]? = some v := by
      intro j v hv
      have := h j v hv
      simpa [World.cell?, hb] using this
    have hsz : o + n ≤ c.size := by
      have := hc (n - 1) _ (List.getElem?_eq_getElem (by omega))
      have := (Array.getElem?_eq_some_iff.1 this).1
      omega
    unfold cut
    rw [if_pos hsz]
    congr 1
    apply Array.ext_getElem?
    intro i
    rw [Array.getElem?_extract]
    by_cases hi : i < n
    · rw [hc i _ (List.getElem?_eq_getElem (by omega))]
      have : i < min (o + n) c.size - o := by omega
      simp [this, show i < cs.length by omega]
    · have : ¬ i < min (o + n) c.size - o := by omega
      simp [this, show cs.length ≤ i by omega]
theorem cell_of_rowAt {w : World} {b o n : Nat} {cs : Array Value} (h : rowAt w b o n = some cs) (j : Nat) (v : Value) (hj : cs[j]? = some v) : w.cell? ⟨b, o + j, none⟩ = some v :=
  (rangeAt_of_rowAt h).1 j v (by simpa using hj)

/-- a variable of several cells is read, and written -/
def ldVar (t : TypeId) (a : Addr) : Sem Value := loadVar t a
def ldRaw (t : TypeId) (a : Addr) : Sem Value := loadVar t a
def stVar (t : TypeId) (a : Addr) (v : Value) : Sem Unit := storeVar t a v
def stRaw (t : TypeId) (a : Addr) (v : Value) : Sem Unit := storeVar t a v

/-- how many cells: hidden from the walk, which would take each index for one that is known -/
def SizeIs (c : Array Value) (n : Nat) : Prop := c.size = n
def oneCells (cs : Array Value) : Bool := cs.all (·.oneCell')
/-- a block's cells, all of them, are written: the block lies there, and may be written -/
def putRow (w : World) (b n : Nat) (cs : Array Value) : Option World :=
  match w.heap[b]? with
  | some (.cells c _ (0, 0)) => if c.size = n ∧ cs.size = n ∧ oneCells cs = true then some (w.setRow b cs) else none
  | _ => none

section
variable {P : Program}
theorem run_ldVar (w : World) (t b o n : Nat) (d : TypeDesc) (hu : P.underlying t = some d) (hd : d.isRow = true) (hi : (P.info? t).map (·.size) = some n) :
    (ldVar t ⟨b, o, none⟩).run P w = match rowAt w b o n with | some cs => .ok (.agg cs) w | none => (ldRaw t ⟨b, o, none⟩).run P w := by
  cases h : rowAt w b o n with
  | none => rfl
  | some cs =>
    obtain ⟨hr, hs⟩ := rangeAt_of_rowAt h
    have := run_loadVar_mid (P := P) w b o t cs.toList d hr hu hd (by rw [hi]; simp [hs])
    unfold ldVar
    simpa using this

theorem run_stVar (w : World) (t b n : Nat) (cs : Array Value) (hi : (P.info? t).map (·.size) = some n) :
    (stVar t ⟨b, 0, none⟩ (.agg cs)).run P w = match putRow w b n cs with | some w' => .ok () w' | none => (stRaw t ⟨b, 0, none⟩ (.agg cs)).run P w := by
  cases h : putRow w b n cs with
  | none => rfl
  | some w' =>
    unfold putRow at h
    split at h
    · rename_i c e hb
      split at h
      · rename_i hc
        obtain ⟨h1, h2, h3⟩ := hc
        injection h with h
        subst h
        exact run_storeVar_row w b e t c cs hb (by rw [hi, h2]) (by omega) h3
      · cases h
    · cases h
end

@[go_sem] theorem putRow_alloc_at (w : World) (c : Array Value) (t : TypeId) (m n : Nat) (cs : Array Value) (h : m = w.heap.size) (hc : c.size = n) (hs : SizeIs cs n) (h1 : oneCells cs = true) :
    putRow (w.alloc (.cells c t)) m n cs = some (w.alloc (.cells cs t)) := by
  subst h
  unfold SizeIs at hs
  unfold putRow
  rw [heap_alloc_new]
  simp only [hc, hs, h1, and_self, if_true]
  rw [World.setRow_alloc_new]
@[go_sem] theorem putRow_alloc_over (w : World) (c : Array Value) (t : TypeId) (m n : Nat) (cs : Array Value) (h : m = w.heap.size) (hc : SizeIs c n) (hs : SizeIs cs n) (h1 : oneCells cs = true) :
    putRow (w.alloc (.cells c t)) m n cs = some (w.alloc (.cells cs t)) := putRow_alloc_at w c t m n cs h hc hs h1
@[go_sem] theorem putRow_alloc_past (w : World) (ob : Obj) (m n : Nat) (cs : Array Value) (h : m < w.heap.size) : putRow (w.alloc ob) m n cs = (putRow w m n cs).map (·.alloc ob) := by
  unfold putRow
  rw [Below.heap_alloc w ob m h]
  split
  · split
    · simp only [Option.map_some]
      congr 1
      simp only [World.setRow, World.alloc]
      congr 1
      apply Array.ext_getElem?
      intro i
      rw [Array.getElem?_modify, Array.getElem?_push, Array.getElem?_push]
      simp only [Array.size_modify]
      by_cases e : i = w.heap.size
      · subst e
        rw [if_neg (by omega), if_pos rfl, if_pos rfl]
      · rw [if_neg e, if_neg e, Array.getElem?_modify]
    · rfl
  · rfl

theorem results_cell3 {fn : Func} {p u v : Tmp} {ty : TypeId} (h : fn.results = #[.cell p ty, .tmp u, .tmp v]) (tmps : Array Value) (P : Program) (w : World) :
    (results fn tmps).run P w = ((asAddr (tmps.getD p undef)).run P w).andThen fun a w₁ => ((loadVar ty a).run P w₁).andThen fun x w₂ => .ok (.tuple #[x, tmps.getD u undef, tmps.getD v undef]) w₂ := by
  simp only [results, h]
  simp [Sem.run_bind, Result.andThen]
theorem results_cell2 {fn : Func} {p u : Tmp} {ty : TypeId} (h : fn.results = #[.cell p ty, .tmp u]) (tmps : Array Value) (P : Program) (w : World) :
    (results fn tmps).run P w = ((asAddr (tmps.getD p undef)).run P w).andThen fun a w₁ => ((loadVar ty a).run P w₁).andThen fun x w₂ => .ok (.tuple #[x, tmps.getD u undef]) w₂ := by
  simp only [results, h]
  simp [Sem.run_bind, Result.andThen]
theorem results_cell1 {fn : Func} {p : Tmp} {ty : TypeId} (h : fn.results = #[.cell p ty]) (tmps : Array Value) (P : Program) (w : World) :
    (results fn tmps).run P w = ((asAddr (tmps.getD p undef)).run P w).andThen fun a w₁ => (loadVar ty a).run P w₁ := by
  simp only [results, h]
  simp [Sem.run_bind]

theorem below_setRow {B : Nat} {w w1 : World} {g : Nat} (h : Below B w w1) (hg : B ≤ g) (cs : Array Value) : Below B w (w1.setRow g cs) :=
  h.trans ⟨rfl, rfl, rfl, by simp, fun k hk => setRow_other w1 g k cs (by omega)⟩
/-- a row of one's own, known from an earlier world, is written -/
theorem putRow_later {W w1 : World} {b n : Nat} {c cs : Array Value} {t : TypeId} (hb : Below W.heap.size W w1) (h : W.heap[b]? = some (.cells c t (0, 0))) (hc : SizeIs c n) (hs : SizeIs cs n) (h1 : oneCells cs = true) :
    putRow w1 b n cs = some (w1.setRow b cs) ∧ rowAt (w1.setRow b cs) b 0 n = some cs := by
  have hlt : b < W.heap.size := (Array.getElem?_eq_some_iff.1 h).1
  have h2 : w1.heap[b]? = some (.cells c t (0, 0)) := (hb.block b hlt).trans h
  unfold SizeIs at hc hs
  constructor
  · unfold putRow
    rw [h2]
    simp only [hc, hs, h1, and_self, if_true]
  · unfold rowAt
    rw [setRow_heap w1 b c cs t (0, 0) h2]
    exact cut_all cs n hs

theorem foldl_set (off : Nat) : ∀ (vs : List Value) (k : Nat) (cs : Array Value) (i : Nat),
    ((vs.zipIdx k).foldl (fun cs (x : Value × Nat) => cs.setIfInBounds (off + x.2) x.1) cs)[i]? =
      if off + k ≤ i ∧ i < off + k + vs.length ∧ i < cs.size then vs[i - (off + k)]? else cs[i]?
  | [], k, cs, i => by
    simp
    omega
  | v :: r, k, cs, i => by
    rw [List.zipIdx_cons, List.foldl_cons, foldl_set off r (k + 1)]
    simp only [Array.size_setIfInBounds, List.length_cons]
    by_cases h : i < cs.size
    · by_cases h1 : i = off + k
      · subst h1
        rw [if_neg (by omega), if_pos (by omega)]
        simp [h]
      · by_cases h2 : off + k < i ∧ i < off + k + (r.length + 1)
        · rw [if_pos (by omega), if_pos (by omega)]
          rw [show i - (off + k) = (i - (off + (k + 1))) + 1 from by omega]
          simp
        · rw [if_neg (by omega), if_neg (by omega)]
          rw [Array.getElem?_setIfInBounds, if_neg (by omega)]
    · rw [if_neg (by omega), if_neg (by omega), Array.getElem?_eq_none (by simp; omega), Array.getElem?_eq_none (by omega)]

/-- a part is laid into cells -/
def lay (cs : Array Value) (off : Nat) (vs : Array Value) : Array Value := cs.extract 0 off ++ vs ++ cs.extract (off + vs.size) cs.size
theorem fold_lay (cs : Array Value) (off : Nat) (vs : Array Value) (h : off + vs.size ≤ cs.size) :
    vs.zipIdx.foldl (fun cs (x : Value × Nat) => cs.setIfInBounds (off + x.2) x.1) cs = lay cs off vs := by
  have e : vs.zipIdx.foldl (fun cs (x : Value × Nat) => cs.setIfInBounds (off + x.2) x.1) cs = (vs.toList.zipIdx 0).foldl (fun cs (x : Value × Nat) => cs.setIfInBounds (off + x.2) x.1) cs := by
    rw [← Array.foldl_toList, Array.toList_zipIdx]
  rw [e]
  apply Array.ext_getElem?
  intro i
  rw [foldl_set]
  unfold lay
  simp only [Array.length_toList, Nat.add_zero, Array.getElem?_toList]
  by_cases h1 : i < off
  · rw [if_neg (by omega), Array.getElem?_append_left (by simp; omega), Array.getElem?_append_left (by simp; omega)]
    simp [Array.getElem?_extract]
    omega
  · by_cases h2 : i < off + vs.size
    · rw [if_pos (by omega), Array.getElem?_append_left (by simp; omega), Array.getElem?_append_right (by simp; omega)]
      congr 1
      simp
      omega
    · rw [if_neg (by omega), Array.getElem?_append_right (by simp; omega), Array.getElem?_extract]
      simp only [Array.size_append, Array.size_extract]
      by_cases h3 : i < cs.size
      · rw [if_pos (by omega)]
        congr 1
        omega
      · rw [if_neg (by omega), Array.getElem?_eq_none (by omega)]

theorem fill_nil (place : Nat → Option (Nat × Nat)) (cs : Array Value) : Instr.fill place cs [] = some cs := rfl
theorem fill_cons (place : Nat → Option (Nat × Nat)) (cs : Array Value) (i : Nat) (v : Value) (r : List (Nat × Value)) (off n : Nat) (hp : place i = some (off, n)) (hv : v.cells.size = n) (hc : off + n ≤ cs.size) :
    Instr.fill place cs ((i, v) :: r) = Instr.fill place (lay cs off v.cells) r := by
  have e : (v.cells.size ≠ n || off + v.cells.size > cs.size) = false := by
    simp [hv]
    omega
  conv => lhs; unfold Instr.fill
  simp only [hp]
  rw [fold_lay cs off v.cells (by omega)]
  rw [if_neg (by rw [e]; decide)]

theorem run_build {P : Program} (w : World) (t : TypeId) (z cells : Array Value) (fs : Array Field) (places : Array (Nat × Nat)) (ps : Array (Nat × Value)) (hz : (zeroValue t).run P w = .ok (.agg z) w) (hu : P.underlying t = some (.struct fs))
    (hp : (fs.mapM fun (f : Field) => (do pure (f.offset, ← sizeOf f.type) : Sem (Nat × Nat))).run P w = .ok places w) (hf : Instr.fill (places[·]?) z ps.toList = some cells) : (Instr.build t ps).run P w = .ok (.agg cells) w := by
  simp only [Instr.build, Sem.run_bind, hz, Result.andThen_ok, run_underlying hu, hp, Value.cells, hf, Sem.run_pure]

end Go.Proofs.YtfnfgnhbnffagaaDoor
