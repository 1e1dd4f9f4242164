/-
What a law's arguments hold: a registry, out of the data that came in.
-/
import Derived.Test.YtfnfgnhbnffagaaDoorZKpw
import Derived.ProofKit
import Derived.LaidMore
import Derived.OpenShut
import Derived.ShutString
import Derived.Stop.Joined
import Derived.Deep.Slices
import Derived.Deep.Strs
import Derived.SizedLaws
import Derived.ChangeMaps5
import Derived.Lib.SmallJoins
namespace Go.Proofs.YtfnfgnhbnffagaaDoor
open Go.ChangeShapes Go.WideShapes Go.ChangeAt Go.WideMaps Go.WideElems Go.RowKit
set_option linter.unusedVariables false
set_option linter.unusedSimpArgs false
set_option maxRecDepth 100000
theorem own : ownKnob Tryd.prog.godebug = none := by kernel_rfl
set_option maxRecDepth 100000 in
theorem reach_le : reachBytes ≤ 140737488355328 := of_decide_eq_true (by kernel_rfl)
section
variable {H : Type} {enc : TypeId × Value → H} {w : World} {base : Nat} {spare : Nat → Bool} {held : Bool}
theorem weights_elem {P : Program} {e : TypeId} {elems : List (DataW H)} {d : DataW H} (h : d ∈ elems) {n : Nat} (hn : n ∈ d.weights P e) : n ∈ DataW.weightsAll P e elems := by
  induction elems with
  | nil => cases h
  | cons x r ih =>
    simp only [DataW.weightsAll, List.mem_append]
    rcases List.mem_cons.1 h with rfl | h
    · exact .inl hn
    · exact .inr (ih h)
/-- a slice over rows of cells that came in -/
theorem open_rows {α : Type} [Inhabited α] (c : α → List Value) (Q : α → Prop) {sz by_ : Nat} {t e : TypeId} (ht : Tryd.prog.underlying t = some (.slice e)) (hc : Tryd.prog.cellsOf e = sz) (hby : Tryd.prog.bytesOf e = by_) (h0 : 0 < sz)
    (hel : ∀ (nf : Nat) (cs : List Value) (d : DataW H) (pl : List MemPlace), DataW.trod enc Tryd.prog w 0 spare held nf e cs = some (d, pl) → (∀ n ∈ d.weights Tryd.prog e, n ≤ reachBytes) → ∃ x : α, cs = c x ∧ (c x).length = sz ∧ Q x)
    {fuel : Nat} {cs : List Value} {d : DataW H} {pl : List MemPlace} (h : DataW.trod enc Tryd.prog w 0 spare held fuel t cs = some (d, pl)) (hw : ∀ n ∈ d.weights Tryd.prog t, n ≤ reachBytes) :
    ∃ A n cap, ∃ xs : List α, cs = [.slice A n cap] ∧ xs.length = n ∧ n * by_ ≤ 140737488355328 ∧ (∀ x ∈ xs, Q x) ∧ SlOk A n ∧ n ≤ cap ∧ (0 < n → ∃ b off, A = some ⟨b, off, none⟩ ∧ b < w.heap.size ∧ ∀ i, i < n → rowAt w b (off + i * sz) sz = some (c (xs.getD i default)).toArray) := by
  have hR := reach_le
  rcases Deep.open_slice ht h with ⟨rfl, hx⟩ | ⟨a, n, cap, m, nf, D, Pl, rfl, _, hlc, hcm, hm, hx, hels⟩
  · exact ⟨none, 0, 0, [], rfl, rfl, by omega, by simp, ⟨fun _ => rfl, fun h => by omega⟩, by omega, fun h => by omega⟩
  · have hd := (Prod.mk.inj hx).1
    have hmn : n ≤ m := by rw [hm]; split <;> omega
    have h1 : ∀ i, i < n → ∃ x : α, (c x).length = sz ∧ Q x ∧ ∀ j, j < sz → w.cell? ((a.add (i * sz)).add j) = (c x)[j]? := fun i hi => by
      obtain ⟨cs', h2, h3⟩ := hels i (by omega)
      rw [hc] at h2
      obtain ⟨x, rfl, h4, h5⟩ := hel _ _ _ _ h3 (fun k hk => hw k (by
        rw [hd]
        simp only [DataW.weights, ht, List.mem_cons, List.mem_append]
        right; left
        exact weights_elem (List.mem_map.2 ⟨i, List.mem_range.2 hi, rfl⟩) hk))
      exact ⟨x, h4, h5, fun j hj => (World.cells?_some h2).2.2 j hj⟩
    obtain ⟨f, hf⟩ := Deep.choose_lt h1
    have hgd : ∀ i, i < n → ((List.range n).map f).getD i default = f i := fun i hi => by simp [List.getD_eq_getElem?_getD, hi]
    have hsp : 0 < n → a.spot = none := fun h0' => by
      obtain ⟨g1, g2, g3⟩ := hf 0 h0'
      have h2 := g3 0 h0
      have e : (a.add (0 * sz)).add 0 = a := by simp [Addr.add]
      rw [e, List.getElem?_eq_getElem (by omega)] at h2
      unfold World.cell? at h2
      split at h2
      · split at h2
        · cases h2
        · rename_i h; simpa using h
      · cases h2
    refine ⟨some a, n, cap, (List.range n).map f, rfl, by simp, ?_, ?_, ⟨fun h => (by cases h), fun h0' x hx => by cases hx; exact hsp h0'⟩, hlc, fun h0' => ?_⟩
    · have := hw (n * by_ + (m - n) * by_) (by
        rw [hd]
        simp only [DataW.weights, ht, List.length_map, List.length_range, hby]
        rw [Nat.add_mul]
        exact List.mem_cons_self)
      omega
    · intro x hx
      obtain ⟨i, hi, rfl⟩ := List.mem_map.1 hx
      exact (hf i (List.mem_range.1 hi)).2.1
    · obtain ⟨b, off, sp⟩ := a
      obtain rfl : sp = none := hsp h0'
      refine ⟨b, off, rfl, ?_, fun i hi => ?_⟩
      · obtain ⟨g1, g2, g3⟩ := hf 0 h0'
        have h2 := g3 0 h0
        rw [Addr.add_mid, Addr.add_mid, List.getElem?_eq_getElem (by omega)] at h2
        exact World.block_lt_of_cell? w _ h2
      · rw [hgd i hi]
        obtain ⟨g1, g2, g3⟩ := hf i hi
        refine rowAt_of_rangeAt (cs := c (f i)) (fun j v hv => ?_) g1 h0
        have hj : j < sz := by have := (List.getElem?_eq_some_iff.1 hv).1; omega
        have := g3 j hj
        rw [Addr.add_mid, Addr.add_mid] at this
        rw [this, hv]
theorem text_le {s : ByteArray} {t : TypeId} (hw : ∀ n ∈ (DataW.lit (H := H) (.string s.data.toList)).weights Tryd.prog t, n ≤ reachBytes) : s.size ≤ 140737488355328 := by
  have h1 := hw s.size (by show s.size ∈ [s.data.toList.length]; rw [List.mem_singleton, Array.length_toList]; rfl)
  exact Nat.le_trans h1 reach_le
theorem trod_text {nf : Nat} {cs : List Value} {d : DataW H} {pl : List MemPlace} (h : DataW.trod enc Tryd.prog w 0 spare held nf 9 cs = some (d, pl)) (hw : ∀ n ∈ d.weights Tryd.prog 9, n ≤ reachBytes) : ∃ s : ByteArray, cs = [.string s] ∧ s.size ≤ 140737488355328 := by
  obtain ⟨s, rfl, hx, _⟩ := DataW.trod_string Tryd.underlying9 h
  have hd := (Prod.mk.inj hx).1
  rw [hd] at hw
  exact ⟨s, rfl, text_le hw⟩
/-- texts that came in -/
theorem trod_texts {nf : Nat} {cs : List Value} {d : DataW H} {pl : List MemPlace} (h : DataW.trod enc Tryd.prog w 0 spare held nf 47 cs = some (d, pl)) (hw : ∀ n ∈ d.weights Tryd.prog 47, n ≤ reachBytes) :
    ∃ A cap ss, cs = [.slice A (List.length ss) cap] ∧ TS w A ss.length ss ∧ SlOk A ss.length ∧ ∀ s ∈ ss, s.size ≤ 140737488355328 := by
  obtain ⟨A, n, cap, xs, rfl, rfl, h1, h2, h3, -, h4⟩ := open_rows (α := ByteArray) (fun s => [.string s]) (fun s => s.size ≤ 140737488355328) (sz := 1) (by_ := 16) Tryd.underlying47 (by kernel_rfl) (by kernel_rfl) (by decide)
    (fun nf cs d pl h hw => by obtain ⟨s, rfl, hs⟩ := trod_text h hw; exact ⟨s, rfl, rfl, hs⟩) h hw
  refine ⟨A, cap, xs, rfl, ⟨rfl, by omega, fun h0 => ?_⟩, h3, h2⟩
  obtain ⟨b, off, hA, hb, hr⟩ := h4 h0
  refine ⟨b, off, hA, hb, fun i hi => ?_⟩
  have := cell_of_rowAt (hr i hi) 0 (.string (xs.getD i default)) rfl
  rw [Nat.mul_one, Nat.add_zero] at this
  exact this
theorem trod_pair {nf : Nat} {cs : List Value} {d : DataW H} {pl : List MemPlace} (h : DataW.trod enc Tryd.prog w 0 spare held nf 75 cs = some (d, pl)) (hw : ∀ n ∈ d.weights Tryd.prog 75, n ≤ reachBytes) : ∃ x : Pr, cs = x.cells ∧ x.cells.length = 2 ∧ x.ok := by
  obtain ⟨y0, y1, n, hx, hl, h0, h1⟩ := trod_struct2 Tryd.underlying75 h
  have hl' : cs.length = 2 := hl.trans (by kernel_rfl)
  have hd := (Prod.mk.inj hx).1
  have e0 : Tryd.prog.cellsOf 9 = 1 := by kernel_rfl
  simp only [e0, List.drop_zero] at h0 h1
  have hwe : ∀ (j : Nat) (y : DataW H), [y0.1, y1.1][j]? = some y → ∀ (t : TypeId), [9, 9][j]? = some t → ∀ x ∈ y.weights Tryd.prog t, x ≤ reachBytes := fun j y hy t ht x hx => hw x (by
    rw [hd]
    simp only [DataW.weights, Tryd.underlying75]
    exact DataW.weights_mem_each (j := j) (by exact ht) hy x hx)
  obtain ⟨k, e1, hk⟩ := trod_text (d := y0.1) (pl := y0.2) h0 (hwe 0 _ rfl _ rfl)
  obtain ⟨v, e2, hv⟩ := trod_text (d := y1.1) (pl := y1.2) h1 (hwe 1 _ rfl _ rfl)
  refine ⟨⟨k, v⟩, ?_, rfl, ⟨hk, hv⟩⟩
  match cs, hl', e1, e2 with
  | [a, b], _, e1, e2 =>
    simp at e1 e2
    subst e1; subst e2
    rfl
def RpQ (w : World) (r : Rp) : Prop := r.ok ∧ TS w r.A r.vals.length r.vals ∧ SlOk r.A r.vals.length
theorem trod_reply {nf : Nat} {cs : List Value} {d : DataW H} {pl : List MemPlace} (h : DataW.trod enc Tryd.prog w 0 spare held nf 49 cs = some (d, pl)) (hw : ∀ n ∈ d.weights Tryd.prog 49, n ≤ reachBytes) : ∃ x : Rp, cs = x.cells ∧ x.cells.length = 4 ∧ RpQ w x := by
  obtain ⟨y0, y1, y2, y3, n, hx, hl, h0, h1, h2, h3⟩ := Joins.trod_struct4 Tryd.underlying49 h
  have hl' : cs.length = 4 := hl.trans (by kernel_rfl)
  have hd := (Prod.mk.inj hx).1
  have e0 : Tryd.prog.cellsOf 3 = 1 := by kernel_rfl
  have e1 : Tryd.prog.cellsOf 33 = 1 := by kernel_rfl
  have e2 : Tryd.prog.cellsOf 47 = 1 := by kernel_rfl
  simp only [e0, e1, e2, List.drop_zero] at h0 h1 h2 h3
  have hwe : ∀ x ∈ y3.1.weights Tryd.prog 47, x ≤ reachBytes := fun x hx => hw x (by
    rw [hd]
    simp only [DataW.weights, Tryd.underlying49]
    exact DataW.weights_mem_each (ts := [3, 3, 33, 47]) (j := 3) rfl rfl x hx)
  obtain ⟨a, g0, _, wa⟩ := DataW.trod_int Tryd.underlying3 h0
  obtain ⟨b, g1, _, wb⟩ := DataW.trod_int Tryd.underlying3 h1
  obtain ⟨c, g2, _, _⟩ := DataW.trod_int Tryd.underlying33 h2
  obtain ⟨A, cap, ss, g3, T, S, hs⟩ := trod_texts (d := y3.1) (pl := y3.2) h3 hwe
  refine ⟨⟨a, b, c, A, cap, ss⟩, ?_, rfl, ⟨⟨wa, wb, T.small, hs⟩, T, S⟩⟩
  match cs, hl', g0, g1, g2, g3 with
  | [p, q, r, s], _, g0, g1, g2, g3 =>
    simp at g0 g1 g2 g3
    subst g0; subst g1; subst g2; subst g3
    rfl
theorem listMap_of {cs : List Value} {k : IntKind} (h : ∀ i, i < cs.length → ∃ n, cs[i]? = some (.int k n) ∧ (Lit.int k n).wf = true) : ∃ rs : List Int, cs = rs.map (Value.int k) ∧ ∀ x ∈ rs, (Lit.int k x).wf = true := by
  induction cs with
  | nil => exact ⟨[], rfl, by simp⟩
  | cons c cs ih =>
    obtain ⟨n, hn, hw⟩ := h 0 (by simp)
    obtain ⟨rs, rfl, hr⟩ := ih (fun i hi => by have := h (i + 1) (by simp; omega); simpa using this)
    simp at hn
    subst hn
    exact ⟨n :: rs, rfl, fun x hx => (List.mem_cons.1 hx).elim (fun e => e ▸ hw) (fun hx => hr x hx)⟩
theorem trod_digest {fuel : Nat} {cs : List Value} {y : DataW H × List MemPlace} (h : DataW.trod enc Tryd.prog w base spare held fuel 38 cs = some y) : ∃ rs : List Int, cs = rs.map (Value.int .u8) ∧ rs.length = 32 ∧ ∀ x ∈ rs, (Lit.int .u8 x).wf = true := by
  obtain ⟨xs, m, _, _, hl, hn, hx⟩ := DataW.trod_array Tryd.underlying38 h
  have hl' : cs.length = 32 := hl.trans (by kernel_rfl)
  have hone : Tryd.prog.cellsOf 5 = 1 := by kernel_rfl
  obtain ⟨rs, rfl, hr⟩ := listMap_of (cs := cs) (k := .u8) (fun i hi => by
    have h1 := hx i (by omega)
    rw [hone, Nat.mul_one, List.getElem?_eq_getElem (by omega)] at h1
    obtain ⟨n, h2, _, h3⟩ := DataW.trod_int Tryd.underlying5 h1
    refine ⟨n, ?_, h3⟩
    have : ((cs.drop i).take 1)[0]? = some (.int .u8 n) := by rw [h2]; rfl
    simpa using this)
  exact ⟨rs, rfl, by simpa using hl', hr⟩
theorem trod_key {fuel : Nat} {cs : List Value} {y : DataW H × List MemPlace} (h : DataW.trod enc Tryd.prog w base spare held fuel 40 cs = some y) : ∃ k : Kb, cs = k.cells ∧ k.ok := by
  obtain ⟨y0, y1, n, _, hl, h0, h1⟩ := trod_struct2 Tryd.underlying40 h
  have hl' : cs.length = 33 := hl.trans (by kernel_rfl)
  have e0 : Tryd.prog.cellsOf 38 = 32 := by kernel_rfl
  have e1 : Tryd.prog.cellsOf 3 = 1 := by kernel_rfl
  simp only [e0, e1, List.drop_zero] at h0 h1
  obtain ⟨rs, h2, h3, h4⟩ := trod_digest h0
  obtain ⟨t, h5, _, h6⟩ := DataW.trod_int Tryd.underlying3 h1
  refine ⟨⟨rs, t⟩, ?_, ⟨h3, h4, h6⟩⟩
  unfold Kb.cells
  simp only
  rw [← h2, ← h5]
  rw [List.take_of_length_le (i := 1) (by simp; omega), List.take_append_drop]
theorem trod_member {fuel : Nat} {cs : List Value} {y : DataW H × List MemPlace} (h : DataW.trod enc Tryd.prog w base spare held fuel 60 cs = some y) : ∃ m : Mb, cs = m.cells ∧ m.ok := by
  obtain ⟨y0, y1, n, _, hl, h0, h1⟩ := trod_struct2 Tryd.underlying60 h
  have hl' : cs.length = 34 := hl.trans (by kernel_rfl)
  have e0 : Tryd.prog.cellsOf 40 = 33 := by kernel_rfl
  have e1 : Tryd.prog.cellsOf 3 = 1 := by kernel_rfl
  simp only [e0, e1, List.drop_zero] at h0 h1
  obtain ⟨t, h5, _, h6⟩ := DataW.trod_int Tryd.underlying3 h0
  rw [List.take_of_length_le (i := 33) (by simp; omega)] at h1
  obtain ⟨k, h2, h3⟩ := trod_key h1
  refine ⟨⟨t, k⟩, ?_, ⟨h3, h6⟩⟩
  unfold Mb.cells
  simp only
  rw [← h2]
  have := List.take_append_drop 1 cs
  rw [h5] at this
  simpa using this.symm
theorem config_cells {nf : Nat} {cs : List Value} {d : DataW H} {pl : List MemPlace} (h : DataW.trod enc Tryd.prog w 0 spare held nf 26 cs = some (d, pl)) (hw : ∀ n ∈ d.weights Tryd.prog 26, n ≤ reachBytes) :
    ∃ ep A cap ms, cs = [.int .i64 ep, .slice A (List.length ms) cap] ∧ MS w A ms.length ms ∧ SlOk A ms.length ∧ ms.length * 48 ≤ 140737488355328 ∧ (Lit.int .i64 ep).wf = true := by
  obtain ⟨y0, y1, n, hx, hl, h0, h1⟩ := trod_struct2 Tryd.underlying26 h
  have hl' : cs.length = 2 := hl.trans (by kernel_rfl)
  have hd := (Prod.mk.inj hx).1
  have e0 : Tryd.prog.cellsOf 3 = 1 := by kernel_rfl
  have e1 : Tryd.prog.cellsOf 24 = 1 := by kernel_rfl
  simp only [e0, e1, List.drop_zero] at h0 h1
  have hwe : ∀ x ∈ y1.1.weights Tryd.prog 24, x ≤ reachBytes := fun x hx => hw x (by
    rw [hd]
    simp only [DataW.weights, Tryd.underlying26]
    exact DataW.weights_mem_each (ts := [3, 24]) (j := 1) rfl rfl x hx)
  obtain ⟨ep, g0, _, wep⟩ := DataW.trod_int Tryd.underlying3 h0
  obtain ⟨A, m, cap, xs, g1, rfl, k1, k2, k3, -, k4⟩ := open_rows (α := Mb) Mb.cells Mb.ok (sz := 34) (by_ := 48) Tryd.underlying24 (by kernel_rfl) (by kernel_rfl) (by decide)
    (fun nf cs d pl h hw => by obtain ⟨x, rfl, hs⟩ := trod_member h; exact ⟨x, rfl, Mb.len hs, hs⟩) (d := y1.1) (pl := y1.2) h1 hwe
  refine ⟨ep, A, cap, xs, ?_, ⟨rfl, by omega, k2, k4⟩, k3, k1, wep⟩
  match cs, hl', g0, g1 with
  | [p, q], _, g0, g1 =>
    simp at g0 g1
    subst g0; subst g1
    rfl
/-- a registry that came in -/
theorem open_state {r : Reach} {b0 : Nat} {v : Value} {d : DataW H} {p : List MemPlace} (hv : Value.okWide Tryd.prog w r b0 28 v) (h : DataW.Trod enc Tryd.prog w 0 spare held 28 v d p) (hw : ∀ n ∈ d.weights Tryd.prog 28, n ≤ reachBytes) :
    ∃ ps rs ep ms, StS w v ps rs ep ms ∧ (Lit.int .i64 ep).wf = true := by
  obtain ⟨cs, rfl, hsz⟩ := okWide_struct Tryd.underlying28 hv
  obtain ⟨fuel, hf⟩ := h
  obtain ⟨y0, y1, y2, n, hx, hl, h0, h1, h2⟩ := Deep.trod_struct3 Tryd.underlying28 hf
  have hl' : (Value.agg cs).cells.toList.length = 4 := hl.trans (by kernel_rfl)
  have hd := (Prod.mk.inj hx).1
  have e0 : Tryd.prog.cellsOf 22 = 1 := by kernel_rfl
  have e1 : Tryd.prog.cellsOf 23 = 1 := by kernel_rfl
  have e2 : Tryd.prog.cellsOf 26 = 2 := by kernel_rfl
  simp only [e0, e1, e2, List.drop_zero] at h0 h1 h2
  have hwe : ∀ (j : Nat) (y : DataW H), [y0.1, y1.1, y2.1][j]? = some y → ∀ (t : TypeId), [22, 23, 26][j]? = some t → ∀ x ∈ y.weights Tryd.prog t, x ≤ reachBytes := fun j y hy t ht x hx => hw x (by
    rw [hd]
    simp only [DataW.weights, Tryd.underlying28]
    exact DataW.weights_mem_each (j := j) (by exact ht) hy x hx)
  obtain ⟨Ap, np, cp, ps, g0, rfl, k1, k2, k3, -, k4⟩ := open_rows (α := Pr) Pr.cells Pr.ok (sz := 2) (by_ := 32) Tryd.underlying22 (by kernel_rfl) (by kernel_rfl) (by decide) (fun nf cs d pl h hw => trod_pair h hw) (d := y0.1) (pl := y0.2) h0 (hwe 0 _ rfl _ rfl)
  obtain ⟨Ar, nr, cr, rs, g1, rfl, l1, l2, l3, -, l4⟩ := open_rows (α := Rp) Rp.cells (RpQ w) (sz := 4) (by_ := 48) Tryd.underlying23 (by kernel_rfl) (by kernel_rfl) (by decide) (fun nf cs d pl h hw => trod_reply h hw) (d := y1.1) (pl := y1.2) h1 (hwe 1 _ rfl _ rfl)
  obtain ⟨ep, Am, cm, ms, g2, M, SM, m1, wep⟩ := config_cells (d := y2.1) (pl := y2.2) h2 (hwe 2 _ rfl _ rfl)
  refine ⟨ps, rs, ep, ms, ⟨⟨Ap, cp, Ar, cr, Am, cm, ?_, ⟨rfl, by omega, k2, k4⟩, k3, ⟨rfl, by omega, fun m hm => (l2 m hm).1, l4⟩, l3, M, SM, fun r hr => (l2 r hr).2⟩⟩, wep⟩
  have hcs : (Value.agg cs).cells = cs := rfl
  rw [hcs] at hl' g0 g1 g2
  congr 1
  apply Array.ext'
  match hh : cs.toList, hl', g0, g1, g2 with
  | [a, b, c, e], _, g0, g1, g2 =>
    simp at g0 g1 g2
    rw [g0, g1, g2.1, g2.2]
theorem cons_of {cs : List Value} {n : Nat} {v : Value} (h0 : cs.take 1 = [v]) (hl : cs.length = n + 1) : cs = v :: (cs.drop 1).take n := by
  have := List.take_append_drop 1 cs
  rw [h0] at this
  rw [List.take_of_length_le (by simp; omega)]
  exact this.symm
theorem trod_change {fuel : Nat} {cs : List Value} {y : DataW H × List MemPlace} (h : DataW.trod enc Tryd.prog w base spare held fuel 42 cs = some y) : ∃ x : Chg, cs = x.cells ∧ x.ok := by
  obtain ⟨y0, y1, y2, y3, n, _, hl, h0, h1, h2, h3⟩ := Joins.trod_struct4 Tryd.underlying42 h
  have hl' : cs.length = 36 := hl.trans (by kernel_rfl)
  have e0 : Tryd.prog.cellsOf 3 = 1 := by kernel_rfl
  have e1 : Tryd.prog.cellsOf 40 = 33 := by kernel_rfl
  simp only [e0, e1, List.drop_zero] at h0 h1 h2 h3
  obtain ⟨a, g0, _, wa⟩ := DataW.trod_int Tryd.underlying3 h0
  obtain ⟨b, g1, _, wb⟩ := DataW.trod_int Tryd.underlying3 h1
  obtain ⟨c, g2, _, wc⟩ := DataW.trod_int Tryd.underlying3 h2
  obtain ⟨k, g3, hk⟩ := trod_key h3
  refine ⟨⟨a, b, c, k⟩, ?_, ⟨wa, wb, wc, hk⟩⟩
  have e3 := cons_of (n := 35) g0 hl'
  have e4 := cons_of (cs := cs.drop 1) (n := 34) g1 (by simp; omega)
  have e5 := cons_of (cs := cs.drop 2) (n := 33) g2 (by simp; omega)
  rw [List.take_of_length_le (by simp; omega)] at e3 e4 e5
  rw [List.drop_drop] at e4 e5
  rw [List.take_of_length_le (by simp; omega)] at g3
  unfold Chg.cells
  rw [e3, e4, e5, g3]
theorem trod_struct5 {P : Program} {t : TypeId} {f0 f1 f2 f3 f4 : Field} {fuel : Nat} {cs : List Value} {x : DataW H × List MemPlace} (ht : P.underlying t = some (.struct #[f0, f1, f2, f3, f4])) (h : DataW.trod enc P w base spare held fuel t cs = some x) :
    ∃ y0 y1 y2 y3 y4 n, x = (.agg [y0.1, y1.1, y2.1, y3.1, y4.1], y0.2 ++ (y1.2 ++ (y2.2 ++ (y3.2 ++ y4.2)))) ∧ cs.length = P.cellsOf t ∧ DataW.trod enc P w base spare held n f0.type ((cs.drop f0.offset).take (P.cellsOf f0.type)) = some y0 ∧
      DataW.trod enc P w base spare held n f1.type ((cs.drop f1.offset).take (P.cellsOf f1.type)) = some y1 ∧ DataW.trod enc P w base spare held n f2.type ((cs.drop f2.offset).take (P.cellsOf f2.type)) = some y2 ∧
      DataW.trod enc P w base spare held n f3.type ((cs.drop f3.offset).take (P.cellsOf f3.type)) = some y3 ∧ DataW.trod enc P w base spare held n f4.type ((cs.drop f4.offset).take (P.cellsOf f4.type)) = some y4 := by
  obtain ⟨xs, n, _, rfl, hl, hlen, hf⟩ := DataW.trod_struct ht h
  match xs, hlen with
  | [y0, y1, y2, y3, y4], _ => exact ⟨y0, y1, y2, y3, y4, n, by simp, hl, by simpa using hf 0 f0 rfl, by simpa using hf 1 f1 rfl, by simpa using hf 2 f2 rfl, by simpa using hf 3 f3 rfl, by simpa using hf 4 f4 rfl⟩
theorem trod_op {nf : Nat} {cs : List Value} {d : DataW H} {pl : List MemPlace} (h : DataW.trod enc Tryd.prog w 0 spare held nf 44 cs = some (d, pl)) (hw : ∀ n ∈ d.weights Tryd.prog 44, n ≤ reachBytes) : ∃ x : Opn, cs = x.cells ∧ x.ok := by
  obtain ⟨y0, y1, y2, y3, y4, n, hx, hl, h0, h1, h2, h3, h4⟩ := trod_struct5 Tryd.underlying44 h
  have hl' : cs.length = 40 := hl.trans (by kernel_rfl)
  have hd := (Prod.mk.inj hx).1
  have e0 : Tryd.prog.cellsOf 3 = 1 := by kernel_rfl
  have e1 : Tryd.prog.cellsOf 9 = 1 := by kernel_rfl
  have e2 : Tryd.prog.cellsOf 42 = 36 := by kernel_rfl
  simp only [e0, e1, e2, List.drop_zero] at h0 h1 h2 h3 h4
  have hwe : ∀ (j : Nat) (y : DataW H), [y0.1, y1.1, y2.1, y3.1, y4.1][j]? = some y → ∀ (t : TypeId), [3, 9, 9, 9, 42][j]? = some t → ∀ x ∈ y.weights Tryd.prog t, x ≤ reachBytes := fun j y hy t ht x hx => hw x (by
    rw [hd]
    simp only [DataW.weights, Tryd.underlying44]
    exact DataW.weights_mem_each (j := j) (by exact ht) hy x hx)
  obtain ⟨a, g0, _, wa⟩ := DataW.trod_int Tryd.underlying3 h0
  obtain ⟨k, g1, hk⟩ := trod_text (d := y1.1) (pl := y1.2) h1 (hwe 1 _ rfl _ rfl)
  obtain ⟨v, g2, hv⟩ := trod_text (d := y2.1) (pl := y2.2) h2 (hwe 2 _ rfl _ rfl)
  obtain ⟨o, g3, ho⟩ := trod_text (d := y3.1) (pl := y3.2) h3 (hwe 3 _ rfl _ rfl)
  obtain ⟨x, g4, hc⟩ := trod_change h4
  refine ⟨⟨a, k, v, o, x⟩, ?_, ⟨wa, hk, hv, ho, hc⟩⟩
  have e3 := cons_of (n := 39) g0 hl'
  have e4 := cons_of (cs := cs.drop 1) (n := 38) g1 (by simp; omega)
  have e5 := cons_of (cs := cs.drop 2) (n := 37) g2 (by simp; omega)
  have e6 := cons_of (cs := cs.drop 3) (n := 36) g3 (by simp; omega)
  rw [List.take_of_length_le (by simp; omega)] at e3 e4 e5 e6
  rw [List.drop_drop] at e4 e5 e6
  rw [List.take_of_length_le (by simp; omega)] at g4
  unfold Opn.cells
  rw [e3, e4, e5, e6, g4]
theorem trod_request {nf : Nat} {cs : List Value} {d : DataW H} {pl : List MemPlace} (h : DataW.trod enc Tryd.prog w 0 spare held nf 46 cs = some (d, pl)) (hw : ∀ n ∈ d.weights Tryd.prog 46, n ≤ reachBytes) : ∃ x : Rq, cs = x.cells ∧ x.cells.length = 42 ∧ x.ok := by
  obtain ⟨y0, y1, y2, n, hx, hl, h0, h1, h2⟩ := Deep.trod_struct3 Tryd.underlying46 h
  have hl' : cs.length = 42 := hl.trans (by kernel_rfl)
  have hd := (Prod.mk.inj hx).1
  have e0 : Tryd.prog.cellsOf 3 = 1 := by kernel_rfl
  have e1 : Tryd.prog.cellsOf 44 = 40 := by kernel_rfl
  simp only [e0, e1, List.drop_zero] at h0 h1 h2
  have hwe : ∀ x ∈ y2.1.weights Tryd.prog 44, x ≤ reachBytes := fun x hx => hw x (by
    rw [hd]
    simp only [DataW.weights, Tryd.underlying46]
    exact DataW.weights_mem_each (ts := [3, 3, 44]) (j := 2) rfl rfl x hx)
  obtain ⟨a, g0, _, wa⟩ := DataW.trod_int Tryd.underlying3 h0
  obtain ⟨b, g1, _, wb⟩ := DataW.trod_int Tryd.underlying3 h1
  obtain ⟨o, g2, ho⟩ := trod_op (d := y2.1) (pl := y2.2) h2 hwe
  have hk : (⟨a, b, o⟩ : Rq).ok := ⟨wa, wb, ho⟩
  refine ⟨⟨a, b, o⟩, ?_, Rq.len hk, hk⟩
  have e3 := cons_of (n := 41) g0 hl'
  have e4 := cons_of (cs := cs.drop 1) (n := 40) g1 (by simp; omega)
  rw [List.take_of_length_le (by simp; omega)] at e3 e4
  rw [List.drop_drop] at e4
  rw [List.take_of_length_le (by simp; omega)] at g2
  unfold Rq.cells
  rw [e3, e4, g2]
/-- an event that came in -/
structure EvQ (w : World) (m : Ev) : Prop where
  ok : m.ok
  t : EvT w m
theorem trod_event {nf : Nat} {cs : List Value} {d : DataW H} {pl : List MemPlace} (h : DataW.trod enc Tryd.prog w 0 spare held nf 51 cs = some (d, pl)) (hw : ∀ n ∈ d.weights Tryd.prog 51, n ≤ reachBytes) : ∃ x : Ev, cs = x.cells ∧ x.cells.length = 48 ∧ EvQ w x := by
  obtain ⟨y0, y1, y2, y3, n, hx, hl, h0, h1, h2, h3⟩ := Joins.trod_struct4 Tryd.underlying51 h
  have hl' : cs.length = 48 := hl.trans (by kernel_rfl)
  have hd := (Prod.mk.inj hx).1
  have e0 : Tryd.prog.cellsOf 3 = 1 := by kernel_rfl
  have e1 : Tryd.prog.cellsOf 46 = 42 := by kernel_rfl
  have e2 : Tryd.prog.cellsOf 49 = 4 := by kernel_rfl
  simp only [e0, e1, e2, List.drop_zero] at h0 h1 h2 h3
  have hwe : ∀ (j : Nat) (y : DataW H), [y0.1, y1.1, y2.1, y3.1][j]? = some y → ∀ (t : TypeId), [46, 49, 3, 3][j]? = some t → ∀ x ∈ y.weights Tryd.prog t, x ≤ reachBytes := fun j y hy t ht x hx => hw x (by
    rw [hd]
    simp only [DataW.weights, Tryd.underlying51]
    exact DataW.weights_mem_each (j := j) (by exact ht) hy x hx)
  obtain ⟨q, g0, lq, hq⟩ := trod_request (d := y0.1) (pl := y0.2) h0 (hwe 0 _ rfl _ rfl)
  obtain ⟨r, g1, lr, hr, hrt, hrs⟩ := trod_reply (d := y1.1) (pl := y1.2) h1 (hwe 1 _ rfl _ rfl)
  obtain ⟨a, g2, _, wa⟩ := DataW.trod_int Tryd.underlying3 h2
  obtain ⟨b, g3, _, wb⟩ := DataW.trod_int Tryd.underlying3 h3
  have hk : (⟨q, r, a, b⟩ : Ev).ok := ⟨hq, hr, wa, wb⟩
  refine ⟨⟨q, r, a, b⟩, ?_, Ev.len hk, ⟨hk, ⟨hrt, hrs, hr.s⟩⟩⟩
  have s0 : cs = cs.take 42 ++ ((cs.drop 42).take 4 ++ ((cs.drop 46).take 1 ++ (cs.drop 47).take 1)) := by
    have b1 := List.take_append_drop 42 cs
    have b2 := List.take_append_drop 4 (cs.drop 42)
    have b3 := List.take_append_drop 1 (cs.drop 46)
    rw [List.drop_drop] at b2 b3
    have b4 : (cs.drop 47).take 1 = cs.drop 47 := List.take_of_length_le (by simp; omega)
    rw [b4, b3, b2, b1]
  rw [s0, g0, g1, g2, g3]
  rfl
/-- a log that came in -/
theorem open_requests {r : Reach} {b0 : Nat} {v : Value} {d : DataW H} {p : List MemPlace} (hv : Value.okWide Tryd.prog w r b0 29 v) (h : DataW.Trod enc Tryd.prog w 0 spare held 29 v d p) (hw : ∀ n ∈ d.weights Tryd.prog 29, n ≤ reachBytes) :
    ∃ A n cap qs, v = .slice A n cap ∧ QS w A n qs ∧ SlOk A n ∧ n ≤ cap := by
  obtain ⟨A0, n0, c0, rfl⟩ := okWide_slice Tryd.underlying29 hv
  obtain ⟨fuel, hf⟩ := h
  obtain ⟨A, n, cap, xs, g1, hl, k1, k2, k3, kc, k4⟩ := open_rows (α := Rq) Rq.cells Rq.ok (sz := 42) (by_ := 136) Tryd.underlying29 (by kernel_rfl) (by kernel_rfl) (by decide) (fun nf cs d pl h hw => trod_request h hw) hf hw
  simp only [Value.cells, List.cons.injEq, and_true] at g1
  cases g1
  exact ⟨_, _, _, xs, rfl, ⟨hl, by omega, k2, k4⟩, k3, kc⟩
/-- events that came in -/
theorem open_events {r : Reach} {b0 : Nat} {v : Value} {d : DataW H} {p : List MemPlace} (hv : Value.okWide Tryd.prog w r b0 30 v) (h : DataW.Trod enc Tryd.prog w 0 spare held 30 v d p) (hw : ∀ n ∈ d.weights Tryd.prog 30, n ≤ reachBytes) :
    ∃ A n cap es, v = .slice A n cap ∧ ES w A n es ∧ SlOk A n ∧ ∀ m ∈ es, EvT w m := by
  obtain ⟨A0, n0, c0, rfl⟩ := okWide_slice Tryd.underlying30 hv
  obtain ⟨fuel, hf⟩ := h
  obtain ⟨A, n, cap, xs, g1, hl, k1, k2, k3, -, k4⟩ := open_rows (α := Ev) Ev.cells (EvQ w) (sz := 48) (by_ := 200) Tryd.underlying30 (by kernel_rfl) (by kernel_rfl) (by decide) (fun nf cs d pl h hw => trod_event h hw) hf hw
  simp only [Value.cells, List.cons.injEq, and_true] at g1
  cases g1
  exact ⟨_, _, _, xs, rfl, ⟨hl, by omega, fun m hm => (k2 m hm).ok, k4⟩, k3, fun m hm => (k2 m hm).t⟩
end
/-- the numbers' table of the library, as it is laid -/
theorem laidMet_rest {x : String × DataW Unit} {r : List (String × DataW Unit)} {w : World} (h : laidMet Tryd.prog (x :: r) w) : laidMet Tryd.prog r w := by
  obtain ⟨ps, ⟨g, t, cs, f, p, q, _, _, _, _, hr, rfl⟩, hn, hc⟩ := h
  exact ⟨q, hr, (List.nodup_append.1 hn).2.1, fun b off hb => hc b off (List.mem_append_right _ hb)⟩
theorem pow_of_laid {W : World} (h : laidMetH Tryd.prog [("math/bits.deBruijn32tab", Rows.laid_math_bits_deBruijn32tab), ("math/bits.deBruijn64tab", Rows.laid_math_bits_deBruijn64tab), ("internal/strconv.uint64pow10", Rows.laid_internal_strconv_uint64pow10)] W) : Pow W := by
  rw [MakeChecks.laidMetH_plain _ _ _ (by kernel_rfl)] at h
  have h2 := laidMet_rest (laidMet_rest h)
  have e : (Rows.laid_internal_strconv_uint64pow10 : DataW Unit) = Lib.tabData .u64 Lib.pow10Tab := by kernel_rfl
  rw [e] at h2
  exact Lib.tabIs_of_head (P := Tryd.prog) (name := "internal/strconv.uint64pow10") (n := 20) (g := 0) (t := 146) (e := 129) (by kernel_rfl) (by kernel_rfl) (by kernel_rfl) (by kernel_rfl) (by kernel_rfl) (by kernel_rfl) h2
end Go.Proofs.YtfnfgnhbnffagaaDoor
