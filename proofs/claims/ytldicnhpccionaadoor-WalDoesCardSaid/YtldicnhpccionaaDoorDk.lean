/-
The disk's frame: which blocks may turn.
-/
import Derived.Test.YtldicnhpccionaaDoorSplit
import Derived.Maps.OwnOps
import Derived.Maps.RangeWalk
import Derived.Maps.Views
import Derived.StringKeys
namespace Go.Proofs.YtldicnhpccionaaDoor
open Go.RowKit
open Go.Maps (Keyed)
set_option linter.unusedVariables false
set_option linter.unusedSimpArgs false

/-- only these blocks may have turned, and new ones are there -/
structure Mv (fp : Nat → Prop) (w w' : World) : Prop where
  os : w'.os = w.os
  tape : w'.tape = w.tape
  output : w'.output = w.output
  size : w.heap.size ≤ w'.heap.size
  block : ∀ i, i < w.heap.size → ¬ fp i → w'.heap[i]? = w.heap[i]?
theorem Mv.refl (fp : Nat → Prop) (w : World) : Mv fp w w := ⟨rfl, rfl, rfl, Nat.le_refl _, fun _ _ _ => rfl⟩
theorem Mv.mono {fp fq : Nat → Prop} {w w' : World} (h : Mv fp w w') (hs : ∀ i, i < w.heap.size → fp i → fq i) : Mv fq w w' := ⟨h.os, h.tape, h.output, h.size, fun i hi hf => h.block i hi (fun c => hf (hs i hi c))⟩
theorem Mv.trans {fp : Nat → Prop} {w w1 w2 : World} (h : Mv fp w w1) {fq : Nat → Prop} (k : Mv fq w1 w2) (hs : ∀ i, i < w.heap.size → fq i → fp i) : Mv fp w w2 :=
  ⟨k.os.trans h.os, k.tape.trans h.tape, k.output.trans h.output, Nat.le_trans h.size k.size, fun i hi hf => (k.block i (Nat.lt_of_lt_of_le hi h.size) (fun c => hf (hs i hi c))).trans (h.block i hi hf)⟩
theorem Mv.below {fp : Nat → Prop} {w w' : World} {B : Nat} (h : Mv fp w w') (hB : B ≤ w.heap.size) (hf : ∀ i, fp i → B ≤ i) : Below B w w' :=
  ⟨h.os, h.tape, h.output, h.size, fun k hk => h.block k (Nat.lt_of_lt_of_le hk hB) (fun c => by have := hf k c; omega)⟩
theorem Mv.of_below {fp : Nat → Prop} {w w' : World} (h : Below w.heap.size w w') : Mv fp w w' := ⟨h.os, h.tape, h.output, h.size, fun k hk _ => h.block k hk⟩
theorem Mv.of_grown {fp : Nat → Prop} {w w' : World} {row : Option Nat} (h : w.grownBy w' row) (hf : ∀ k, row = some k → fp k) : Mv fp w w' :=
  ⟨h.os, h.tape, h.output, h.size, fun k hk hn => h.block k hk (fun e => hn (hf k e.symm))⟩
theorem Mv.setCell {fp : Nat → Prop} (w : World) (a : Addr) (v : Value) (hf : fp a.block) : Mv fp w (w.setCell a v) :=
  ⟨rfl, rfl, rfl, by simp [World.setCell], fun k hk hn => Below.heap_setCell _ _ _ _ (fun e => hn (e ▸ hf))⟩
theorem Mv.cell {fp : Nat → Prop} {w w' : World} (h : Mv fp w w') {p : Addr} (hp : p.block < w.heap.size) (hf : ¬ fp p.block) : w'.cell? p = w.cell? p := World.cell?_of_block (w := w) (h.block p.block hp hf)
theorem Mv.frozen {fp : Nat → Prop} {w w' : World} (h : Mv fp w w') {p : Addr} (hp : p.block < w.heap.size) (hf : ¬ fp p.block) : w'.frozen? p = w.frozen? p := World.frozen?_of_block (w := w) (h.block p.block hp hf)
/-- a row of one's own stands where its block isn't meant -/
theorem OB.mv {fp : Nat → Prop} {w w' : World} {B : Nat} {v : Value} {l : List UInt8} (h : OB w B v l) (m : Mv fp w w') (hf : ∀ g, v.ownBlock = some g → ¬ fp g) : OB w' B v l := by
  obtain ⟨h1, h2⟩ := h
  refine ⟨h1, ?_⟩
  rcases h2 with h2 | ⟨g, cap, cur, hv, hg, hh, r⟩
  · exact .inl h2
  · exact .inr ⟨g, cap, cur, hv, hg, (m.block g (Array.getElem?_eq_some_iff.1 hh).1 (hf g (by rw [hv]; rfl))).trans hh, r⟩
theorem BL.mv {fp : Nat → Prop} {w w' : World} {A : Option Addr} {l : List UInt8} (h : BL w A l) (m : Mv fp w w') (hf : ∀ b o, A = some ⟨b, o, none⟩ → 0 < l.length → ¬ fp b) : BL w' A l :=
  ⟨fun h0 => by
    obtain ⟨b, o, hA, hlt, hc⟩ := h.mem h0
    exact ⟨b, o, hA, Nat.lt_of_lt_of_le hlt m.size, fun j u hu => (m.cell (p := ⟨b, o + j, none⟩) hlt (hf b o hA h0)).trans (hc j u hu)⟩⟩

/-- a file: its name, its block, its two slices, their bytes -/
structure FileS where
  nm : ByteArray
  g : Nat
  sv : Value
  wv : Value
  s : List UInt8
  u : List UInt8
def FileS.fp (f : FileS) (i : Nat) : Prop := i = f.g ∨ f.sv.ownBlock = some i ∨ f.wv.ownBlock = some i
structure FileS.ok (f : FileS) (B : Nat) (w : World) : Prop where
  cells : w.heap[f.g]? = some (.cells #[f.sv, f.wv] 75 (0, 0))
  ge : B ≤ f.g
  safe : OB w B f.sv f.s
  waits : OB w B f.wv f.u
  gs : f.sv.ownBlock ≠ some f.g
  gw : f.wv.ownBlock ≠ some f.g
  sw : ∀ i, f.sv.ownBlock = some i → f.wv.ownBlock ≠ some i
theorem FileS.ok.lt {f : FileS} {B : Nat} {w : World} (h : f.ok B w) {i : Nat} (hi : f.fp i) : B ≤ i ∧ i < w.heap.size := by
  rcases hi with rfl | hi | hi
  · exact ⟨h.ge, (Array.getElem?_eq_some_iff.1 h.cells).1⟩
  · exact ob_lt h.safe hi
  · exact ob_lt h.waits hi
theorem FileS.ok.mv {f : FileS} {B : Nat} {w w' : World} {fp : Nat → Prop} (h : f.ok B w) (m : Mv fp w w') (hf : ∀ i, f.fp i → ¬ fp i) : f.ok B w' :=
  ⟨(m.block _ (h.lt (.inl rfl)).2 (hf _ (.inl rfl))).trans h.cells, h.ge, h.safe.mv m (fun g hg => hf g (.inr (.inl hg))), h.waits.mv m (fun g hg => hf g (.inr (.inr hg))), h.gs, h.gw, h.sw⟩

/-- how a file's pointer reads: by its block -/
def ptrE (v : Value) : Option (DataW Unit × List MemPlace) :=
  match v with
  | .pointer (some ⟨g, 0, none⟩) => some (.lit (.int .i64 (g : Int)), [])
  | .pointer none => some (.lit (.int .i64 (-1)), [])
  | _ => none
theorem mapLaw : Keyed Tryd.prog 9 := Go.Maps.string_keyed Tryd.underlying9
def keyL (s : ByteArray) : Lit := .string s.data.toList
theorem keyL_inj {s t : ByteArray} (h : keyL s = keyL t) : s = t := by
  unfold keyL at h
  have h1 := Lit.string.inj h
  have h2 : s.data = t.data := Array.toList_inj.1 h1
  cases s; cases t; simpa using h2
theorem keyL_key (s : ByteArray) : WideAt.IsKeyLit (keyL s) := trivial
def blockL (g : Nat) : DataW Unit := .lit (.int .i64 (g : Int))
/-- the map's reading is these files' -/
structure Reads (D : DataW Unit) (fs : List FileS) : Prop where
  tidy : Maps.Tidy D
  size : Maps.size D = fs.length
  at' : ∀ f ∈ fs, ∀ z, D.atKey (keyL f.nm) z = blockL f.g
  has : ∀ k, Maps.has D k = true → ∃ f ∈ fs, k = keyL f.nm
theorem Reads.none {D : DataW Unit} {fs : List FileS} (h : Reads D fs) {nm : ByteArray} (hn : ∀ f ∈ fs, f.nm ≠ nm) : Maps.has D (keyL nm) = false := by
  cases c : Maps.has D (keyL nm) with
  | false => rfl
  | true => obtain ⟨f, hf, e⟩ := h.has _ c; exact absurd (keyL_inj e).symm (hn f hf)
theorem Reads.in {D : DataW Unit} {fs : List FileS} (h : Reads D fs) {f : FileS} (hf : f ∈ fs) : Maps.has D (keyL f.nm) = true := Maps.has_true_of_atKey (h.at' f hf)
theorem reads_nil : Reads (.map []) [] := ⟨Maps.tidy_empty, rfl, fun f hf => absurd hf (by simp), fun k hk => by cases hk⟩
theorem Reads.add {D : DataW Unit} {fs : List FileS} (h : Reads D fs) (f' : FileS) (hn : ∀ f ∈ fs, f.nm ≠ f'.nm) : Reads (D.put (keyL f'.nm) (blockL f'.g)) (fs ++ [f']) := by
  refine ⟨h.tidy.put (keyL_key _) _, ?_, fun f hf z => ?_, fun k hk => ?_⟩
  · rw [Maps.size_put h.tidy, h.none hn, h.size]; simp
  · rcases List.mem_append.1 hf with hf | hf
    · rw [Maps.atKey_put_other (fun e => hn f hf (keyL_inj e))]; exact h.at' f hf z
    · rw [List.mem_singleton] at hf; subst hf; exact Maps.atKey_put_same h.tidy.isMap (keyL_key _) _ _
  · rcases Classical.em (k = keyL f'.nm) with e | e
    · exact ⟨f', by simp, e⟩
    · rw [Maps.has_put_other e] at hk
      obtain ⟨f, hf, e2⟩ := h.has k hk
      exact ⟨f, List.mem_append_left _ hf, e2⟩
/-- one file of that name for another -/
def updF (fs : List FileS) (f' : FileS) : List FileS := fs.map fun f => if f.nm = f'.nm then f' else f
theorem mem_updF {fs : List FileS} {f' f : FileS} (h : f ∈ updF fs f') : f = f' ∨ (f ∈ fs ∧ f.nm ≠ f'.nm) := by
  obtain ⟨x, hx, e⟩ := List.mem_map.1 h
  split at e
  · exact .inl e.symm
  · subst e; exact .inr ⟨hx, by assumption⟩
theorem Reads.put {D : DataW Unit} {fs : List FileS} (h : Reads D fs) (f' : FileS) {f0 : FileS} (h0 : f0 ∈ fs) (hn : f0.nm = f'.nm) : Reads (D.put (keyL f'.nm) (blockL f'.g)) (updF fs f') := by
  refine ⟨h.tidy.put (keyL_key _) _, ?_, fun f hf z => ?_, fun k hk => ?_⟩
  · rw [Maps.size_put h.tidy, ← hn, h.in h0, h.size]; simp [updF]
  · rcases mem_updF hf with rfl | ⟨hf, hne⟩
    · exact Maps.atKey_put_same h.tidy.isMap (keyL_key _) _ _
    · rw [Maps.atKey_put_other (fun e => hne (keyL_inj e))]; exact h.at' f hf z
  · rcases Classical.em (k = keyL f'.nm) with e | e
    · exact ⟨f', List.mem_map.2 ⟨f0, h0, by rw [if_pos hn]⟩, e⟩
    · rw [Maps.has_put_other e] at hk
      obtain ⟨f, hf, e2⟩ := h.has k hk
      exact ⟨f, List.mem_map.2 ⟨f, hf, by rw [if_neg (fun c => e (by rw [e2, c]))]⟩, e2⟩
/-- the same block under the same name: the map stands -/
theorem Reads.keep {D : DataW Unit} {fs : List FileS} (h : Reads D fs) (f' : FileS) {f0 : FileS} (h0 : f0 ∈ fs) (hn : f0.nm = f'.nm) (hg : f0.g = f'.g) : Reads D (updF fs f') := by
  refine ⟨h.tidy, by rw [h.size]; simp [updF], fun f hf z => ?_, fun k hk => ?_⟩
  · rcases mem_updF hf with rfl | ⟨hf, -⟩
    · rw [← hn, ← hg]; exact h.at' f0 h0 z
    · exact h.at' f hf z
  · obtain ⟨f, hf, e2⟩ := h.has k hk
    rcases Classical.em (f.nm = f'.nm) with c | c
    · exact ⟨f', List.mem_map.2 ⟨f, hf, by rw [if_pos c]⟩, by rw [e2, c]⟩
    · exact ⟨f, List.mem_map.2 ⟨f, hf, by rw [if_neg c]⟩, e2⟩
/-- the block holds a map that reads so -/
def OwnF (w : World) (mb : Nat) (fs : List FileS) : Prop := ∃ D, w.ownsMap Tryd.prog 9 ptrE mb fs.length D ∧ Reads D fs
theorem OwnF.lt {w : World} {mb : Nat} {fs : List FileS} (h : OwnF w mb fs) : mb < w.heap.size := h.elim fun _ h => h.1.lt
theorem OwnF.mv {w w' : World} {mb : Nat} {fs : List FileS} {fp : Nat → Prop} (h : OwnF w mb fs) (m : Mv fp w w') (hf : ¬ fp mb) : OwnF w' mb fs := by
  have hlt := h.lt
  obtain ⟨D, ⟨es, clock, hb, r⟩, hR⟩ := h
  exact ⟨D, ⟨es, clock, (m.block mb hlt hf).trans hb, r⟩, hR⟩
theorem OwnF.keep {w : World} {mb : Nat} {fs : List FileS} (h : OwnF w mb fs) (f' : FileS) {f0 : FileS} (h0 : f0 ∈ fs) (hn : f0.nm = f'.nm) (hg : f0.g = f'.g) : OwnF w mb (updF fs f') := by
  obtain ⟨D, hD, hR⟩ := h
  exact ⟨D, by rw [show (updF fs f').length = fs.length by simp [updF]]; exact hD, hR.keep f' h0 hn hg⟩
/-- a bound of the entries is their number -/
theorem ownsMap_size {w : World} {mb n : Nat} {D : DataW Unit} (h : w.ownsMap Tryd.prog 9 ptrE mb n D) : w.ownsMap Tryd.prog 9 ptrE mb (Maps.size D) D := by
  obtain ⟨es, clock, hb, F, hs, rfl⟩ := h
  refine ⟨es, clock, hb, F, ?_, rfl⟩
  rw [Maps.size_eq, length_sorted]; simp

theorem ptrE_some {v : Value} {g : Nat} {ps : List MemPlace} (h : ptrE v = some (blockL g, ps)) : v = .pointer (some ⟨g, 0, none⟩) := by
  unfold ptrE at h
  split at h
  · rename_i g' 
    have h1 := (Prod.mk.inj (Option.some.inj h)).1
    unfold blockL at h1
    have h2 := DataW.lit.inj h1
    have h3 := (Lit.int.inj h2).2
    have h4 : g' = g := by exact_mod_cast h3
    rw [h4]
  · have h1 := (Prod.mk.inj (Option.some.inj h)).1
    unfold blockL at h1
    have h2 := DataW.lit.inj h1
    have h3 := (Lit.int.inj h2).2
    omega
  · cases h
theorem ptrE_none {v : Value} {ps : List MemPlace} (h : ptrE v = some (.lit (.int .i64 (-1)), ps)) : v = .pointer none := by
  unfold ptrE at h
  split at h
  · rename_i g' 
    have h1 := (Prod.mk.inj (Option.some.inj h)).1
    have h2 := DataW.lit.inj h1
    have h3 := (Lit.int.inj h2).2
    omega
  · rfl
  · cases h
theorem zeroP (w : World) : (zeroValue 72).run Tryd.prog w = .ok (.pointer none) w := by kernel_rfl
theorem keyOfS {s : ByteArray} (hs : s.size ≤ 1000000) : keyOf Tryd.prog 9 (.string s) = some (keyL s) := WideMaps.keyOf_string_mk Tryd.underlying9 (by simp only [maxLen]; omega)
theorem OwnF.look_in {w : World} {mb : Nat} {fs : List FileS} (h : OwnF w mb fs) {f : FileS} (hf : f ∈ fs) (hs : f.nm.size ≤ 1000000) :
    (Instr.lookup 69 (.map (some mb)) (.string f.nm) false).run Tryd.prog w = .ok (.pointer (some ⟨f.g, 0, none⟩)) w := by
  obtain ⟨D, hD, hR⟩ := h
  obtain ⟨v, ps, h1, h2⟩ := hD.lookup mapLaw Tryd.underlying69 (zeroP w) (zd := .lit (.int .i64 (-1))) (zp := []) rfl (keyOfS hs)
  rw [hR.at' f hf] at h2
  rw [ptrE_some h2] at h1
  exact h1
theorem OwnF.look_no {w : World} {mb : Nat} {fs : List FileS} (h : OwnF w mb fs) {nm : ByteArray} (hf : ∀ f ∈ fs, f.nm ≠ nm) (hs : nm.size ≤ 1000000) :
    (Instr.lookup 69 (.map (some mb)) (.string nm) false).run Tryd.prog w = .ok (.pointer none) w := by
  obtain ⟨D, hD, hR⟩ := h
  obtain ⟨v, ps, h1, h2⟩ := hD.lookup mapLaw Tryd.underlying69 (zeroP w) (zd := .lit (.int .i64 (-1))) (zp := []) rfl (keyOfS hs)
  rw [Maps.atKey_of_not_has (hR.none hf)] at h2
  rw [ptrE_none h2] at h1
  exact h1
theorem OwnF.store_add {w : World} {mb : Nat} {fs : List FileS} (h : OwnF w mb fs) (f' : FileS) (hf : ∀ f ∈ fs, f.nm ≠ f'.nm) (hs : f'.nm.size ≤ 1000000) (hn : fs.length ≤ 1000000) :
    ∃ w', (Instr.mapUpdate 69 (.map (some mb)) (.string f'.nm) (.pointer (some ⟨f'.g, 0, none⟩))).run Tryd.prog w = .ok () w' ∧ OwnF w' mb (fs ++ [f']) ∧ w.grownBy w' (some mb) := by
  obtain ⟨D, hD, hR⟩ := h
  obtain ⟨w', h1, h2, h3⟩ := hD.update mapLaw Tryd.underlying69 (by simp only [maxLen]; omega) (keyOfS hs) (val := .pointer (some ⟨f'.g, 0, none⟩)) (d := blockL f'.g) (ps := []) rfl
  have hR' := hR.add f' hf
  exact ⟨w', h1, ⟨_, by rw [← hR'.size]; exact ownsMap_size h2, hR'⟩, h3⟩
theorem OwnF.store_in {w : World} {mb : Nat} {fs : List FileS} (h : OwnF w mb fs) (f' : FileS) {f0 : FileS} (h0 : f0 ∈ fs) (hn0 : f0.nm = f'.nm) (hs : f'.nm.size ≤ 1000000) (hn : fs.length ≤ 1000000) :
    ∃ w', (Instr.mapUpdate 69 (.map (some mb)) (.string f'.nm) (.pointer (some ⟨f'.g, 0, none⟩))).run Tryd.prog w = .ok () w' ∧ OwnF w' mb (updF fs f') ∧ w.grownBy w' (some mb) := by
  obtain ⟨D, hD, hR⟩ := h
  obtain ⟨w', h1, h2, h3⟩ := hD.update mapLaw Tryd.underlying69 (by simp only [maxLen]; omega) (keyOfS hs) (val := .pointer (some ⟨f'.g, 0, none⟩)) (d := blockL f'.g) (ps := []) rfl
  have hR' := hR.put f' h0 hn0
  exact ⟨w', h1, ⟨_, by rw [← hR'.size]; exact ownsMap_size h2, hR'⟩, h3⟩

/-- the disk in the heap -/
structure Dk (B db mb : Nat) (down : Bool) (acts fuse keep : Int) (fs : List FileS) (w : World) : Prop where
  cells : w.heap[db]? = some (.cells #[.map (some mb), .bool down, .int .i64 acts, .int .i64 fuse, .int .i64 keep] 71 (0, 0))
  geD : B ≤ db
  geM : B ≤ mb
  map : OwnF w mb fs
  files : ∀ f ∈ fs, f.ok B w
  names : fs.Pairwise fun f f' => f.nm ≠ f'.nm
  apart : fs.Pairwise fun f f' => ∀ i, f.fp i → ¬ f'.fp i
  noD : ∀ f ∈ fs, ¬ f.fp db
  noM : ∀ f ∈ fs, ¬ f.fp mb
  dm : db ≠ mb
/-- the disk's blocks -/
def dkFp (db mb : Nat) (fs : List FileS) (i : Nat) : Prop := i = db ∨ i = mb ∨ ∃ f ∈ fs, f.fp i
theorem Dk.mv {B db mb : Nat} {down : Bool} {acts fuse keep : Int} {fs : List FileS} {w w' : World} {fp : Nat → Prop} (h : Dk B db mb down acts fuse keep fs w) (m : Mv fp w w') (hf : ∀ i, dkFp db mb fs i → ¬ fp i) : Dk B db mb down acts fuse keep fs w' := by
  exact ⟨(m.block _ (Array.getElem?_eq_some_iff.1 h.cells).1 (hf _ (.inl rfl))).trans h.cells, h.geD, h.geM, h.map.mv m (hf _ (.inr (.inl rfl))), fun f hf' => (h.files f hf').mv m (fun i hi => hf i (.inr (.inr ⟨f, hf', hi⟩))), h.names, h.apart, h.noD, h.noM, h.dm⟩

theorem Dk.lt {B db mb : Nat} {down : Bool} {acts fuse keep : Int} {fs : List FileS} {w : World} (h : Dk B db mb down acts fuse keep fs w) {i : Nat} (hi : dkFp db mb fs i) : B ≤ i ∧ i < w.heap.size := by
  rcases hi with rfl | rfl | ⟨f, hf, hi⟩
  · exact ⟨h.geD, (Array.getElem?_eq_some_iff.1 h.cells).1⟩
  · exact ⟨h.geM, h.map.lt⟩
  · exact (h.files f hf).lt hi
theorem Dk.below {B db mb : Nat} {down : Bool} {acts fuse keep : Int} {fs : List FileS} {w w' : World} (h : Dk B db mb down acts fuse keep fs w) (hb : Below w.heap.size w w') : Dk B db mb down acts fuse keep fs w' :=
  h.mv (Mv.of_below (fp := fun _ => False) hb) (fun _ _ c => c)
/-- the disk's own cells turn -/
theorem Dk.turn {B db mb : Nat} {down : Bool} {acts fuse keep : Int} {fs : List FileS} {w w' : World} (h : Dk B db mb down acts fuse keep fs w) {down' : Bool} {acts' fuse' keep' : Int} (m : Mv (· = db) w w')
    (hc : w'.heap[db]? = some (.cells #[.map (some mb), .bool down', .int .i64 acts', .int .i64 fuse', .int .i64 keep'] 71 (0, 0))) : Dk B db mb down' acts' fuse' keep' fs w' :=
  ⟨hc, h.geD, h.geM, h.map.mv m (fun e => h.dm e.symm), fun f hf => (h.files f hf).mv m (fun i hi e => h.noD f hf (e ▸ hi)), h.names, h.apart, h.noD, h.noM, h.dm⟩
theorem same_of_nm {fs : List FileS} (hp : fs.Pairwise fun f f' => f.nm ≠ f'.nm) {f g : FileS} (hf : f ∈ fs) (hg : g ∈ fs) (e : f.nm = g.nm) : f = g := by
  induction fs with
  | nil => cases hf
  | cons x r ih =>
    rw [List.pairwise_cons] at hp
    rcases List.mem_cons.1 hf with rfl | hf2
    · rcases List.mem_cons.1 hg with rfl | hg2
      · rfl
      · exact absurd e (hp.1 g hg2)
    · rcases List.mem_cons.1 hg with rfl | hg2
      · exact absurd e.symm (hp.1 f hf2)
      · exact ih hp.2 hf2 hg2
theorem apart_of {fs : List FileS} (hp : fs.Pairwise fun f f' => ∀ i, f.fp i → ¬ f'.fp i) {f g : FileS} (hf : f ∈ fs) (hg : g ∈ fs) (e : f.nm ≠ g.nm) : ∀ i, f.fp i → ¬ g.fp i := by
  induction fs with
  | nil => cases hf
  | cons x r ih =>
    rw [List.pairwise_cons] at hp
    rcases List.mem_cons.1 hf with rfl | hf2
    · rcases List.mem_cons.1 hg with rfl | hg2
      · exact absurd rfl e
      · exact hp.1 g hg2
    · rcases List.mem_cons.1 hg with rfl | hg2
      · exact fun i h1 h2 => hp.1 f hf2 i h2 h1
      · exact ih hp.2 hf2 hg2
theorem updF_names {fs : List FileS} (hp : fs.Pairwise fun f f' => f.nm ≠ f'.nm) (f' : FileS) : (updF fs f').Pairwise fun f f' => f.nm ≠ f'.nm := by
  unfold updF
  rw [List.pairwise_map]
  refine hp.imp fun {a b} h => ?_
  split <;> split <;> simp_all
theorem updF_apart {fs : List FileS} (hn : fs.Pairwise fun f f' => f.nm ≠ f'.nm) (hp : fs.Pairwise fun f f' => ∀ i, f.fp i → ¬ f'.fp i) (f' : FileS) (ha : ∀ f ∈ fs, f.nm ≠ f'.nm → ∀ i, f.fp i → ¬ f'.fp i) :
    (updF fs f').Pairwise fun f f' => ∀ i, f.fp i → ¬ f'.fp i := by
  unfold updF
  rw [List.pairwise_map]
  refine (List.pairwise_iff_forall_sublist.2 fun {a b} hs => ?_)
  have hab := List.pairwise_iff_forall_sublist.1 hp hs
  have hnb := List.pairwise_iff_forall_sublist.1 hn hs
  have hma : a ∈ fs := hs.subset (by simp)
  have hmb : b ∈ fs := hs.subset (by simp)
  split <;> split
  · rename_i c d; exact absurd (c.trans d.symm) hnb
  · rename_i c d; exact fun i h1 h2 => ha b hmb d i h2 h1
  · rename_i c d; exact fun i h1 h2 => ha a hma c i h1 h2
  · exact hab
/-- one file turns, in its own blocks and in new ones -/
theorem Dk.file {B db mb : Nat} {down : Bool} {acts fuse keep : Int} {fs : List FileS} {w w' : World} (h : Dk B db mb down acts fuse keep fs w) {f0 : FileS} (h0 : f0 ∈ fs) (f' : FileS) (hn : f0.nm = f'.nm) (hg : f0.g = f'.g)
    (m : Mv f0.fp w w') (ho : f'.ok B w') (hf : ∀ i, f'.fp i → f0.fp i ∨ w.heap.size ≤ i) : Dk B db mb down acts fuse keep (updF fs f') w' := by
  have hlt := fun i hi => (h.lt (i := i) hi).2
  have hother : ∀ f ∈ fs, f.nm ≠ f'.nm → ∀ i, f.fp i → ¬ f0.fp i := fun f hf hne i hi c => apart_of h.apart hf h0 (by rw [hn]; exact hne) i hi c
  have hother' : ∀ f ∈ fs, f.nm ≠ f'.nm → ∀ i, f.fp i → ¬ f'.fp i := fun f hf1 hne i hi c => by
    rcases hf i c with c | c
    · exact hother f hf1 hne i hi c
    · have := hlt i (.inr (.inr ⟨f, hf1, hi⟩)); omega
  refine ⟨(m.block _ (Array.getElem?_eq_some_iff.1 h.cells).1 (h.noD _ h0)).trans h.cells, h.geD, h.geM, (h.map.mv m (h.noM _ h0)).keep f' h0 hn hg, fun f hm => ?_, updF_names h.names f', updF_apart h.names h.apart f' hother', fun f hm => ?_, fun f hm => ?_, h.dm⟩
  · rcases mem_updF hm with rfl | ⟨hm, hne⟩
    · exact ho
    · exact (h.files f hm).mv m (hother f hm hne)
  · rcases mem_updF hm with rfl | ⟨hm, hne⟩
    · intro c
      rcases hf _ c with c | c
      · exact h.noD _ h0 c
      · have := hlt db (.inl rfl); omega
    · exact h.noD f hm
  · rcases mem_updF hm with rfl | ⟨hm, hne⟩
    · intro c
      rcases hf _ c with c | c
      · exact h.noM _ h0 c
      · have := hlt mb (.inr (.inl rfl)); omega
    · exact h.noM f hm

/-- a file of a new name, in new blocks -/
theorem Dk.add {B db mb : Nat} {down : Bool} {acts fuse keep : Int} {fs : List FileS} {w w' : World} (h : Dk B db mb down acts fuse keep fs w) (f' : FileS) (hn : ∀ f ∈ fs, f.nm ≠ f'.nm)
    (m : Mv (· = mb) w w') (hm : OwnF w' mb (fs ++ [f'])) (ho : f'.ok B w') (hf : ∀ i, f'.fp i → ¬ dkFp db mb fs i) : Dk B db mb down acts fuse keep (fs ++ [f']) w' := by
  refine ⟨(m.block _ (Array.getElem?_eq_some_iff.1 h.cells).1 h.dm).trans h.cells, h.geD, h.geM, hm, fun f hm => ?_, ?_, ?_, fun f hm => ?_, fun f hm => ?_, h.dm⟩
  · rcases List.mem_append.1 hm with hm | hm
    · exact (h.files f hm).mv m (fun i hi e => h.noM f hm (e ▸ hi))
    · rw [List.mem_singleton] at hm; subst hm; exact ho
  · rw [List.pairwise_append]
    exact ⟨h.names, List.pairwise_singleton _ _, fun f hf1 g hg => by rw [List.mem_singleton] at hg; subst hg; exact hn f hf1⟩
  · rw [List.pairwise_append]
    refine ⟨h.apart, List.pairwise_singleton _ _, fun f hf1 g hg i h1 h2 => ?_⟩
    rw [List.mem_singleton] at hg; subst hg
    exact hf i h2 (.inr (.inr ⟨f, hf1, h1⟩))
  · rcases List.mem_append.1 hm with hm | hm
    · exact h.noD f hm
    · rw [List.mem_singleton] at hm; subst hm; exact fun c => hf _ c (.inl rfl)
  · rcases List.mem_append.1 hm with hm | hm
    · exact h.noM f hm
    · rw [List.mem_singleton] at hm; subst hm; exact fun c => hf _ c (.inr (.inl rfl))
/-- a file in new blocks for one of the same name -/
theorem Dk.put {B db mb : Nat} {down : Bool} {acts fuse keep : Int} {fs : List FileS} {w w' : World} (h : Dk B db mb down acts fuse keep fs w) (f' : FileS)
    (m : Mv (· = mb) w w') (hm : OwnF w' mb (updF fs f')) (ho : f'.ok B w') (hf : ∀ i, f'.fp i → ¬ dkFp db mb fs i) : Dk B db mb down acts fuse keep (updF fs f') w' := by
  refine ⟨(m.block _ (Array.getElem?_eq_some_iff.1 h.cells).1 h.dm).trans h.cells, h.geD, h.geM, hm, fun f hm => ?_, updF_names h.names f', updF_apart h.names h.apart f' (fun f hf1 hne i h1 h2 => ?_), fun f hm => ?_, fun f hm => ?_, h.dm⟩
  · rcases mem_updF hm with rfl | ⟨hm, hne⟩
    · exact ho
    · exact (h.files f hm).mv m (fun i hi e => h.noM f hm (e ▸ hi))
  · exact hf i h2 (.inr (.inr ⟨f, hf1, h1⟩))
  · rcases mem_updF hm with rfl | ⟨hm, hne⟩
    · exact fun c => hf _ c (.inl rfl)
    · exact h.noD f hm
  · rcases mem_updF hm with rfl | ⟨hm, hne⟩
    · exact fun c => hf _ c (.inr (.inl rfl))
    · exact h.noM f hm

theorem cell_at {w : World} {b i : Nat} {cur : Array Value} {t : TypeId} {v : Value} (h : w.heap[b]? = some (.cells cur t (0, 0))) (hi : cur[i]? = some v) : w.cell? ⟨b, i, none⟩ = some v := by
  simp [World.cell?, h, hi]
theorem frozen_at {w : World} {b i : Nat} {cur : Array Value} {t : TypeId} (h : w.heap[b]? = some (.cells cur t (0, 0))) : w.frozen? ⟨b, i, none⟩ = false := by
  simp [World.frozen?, h]
theorem setCell_at {w : World} {b i : Nat} {cur : Array Value} {t : TypeId} (h : w.heap[b]? = some (.cells cur t (0, 0))) (v : Value) : (w.setCell ⟨b, i, none⟩ v).heap[b]? = some (.cells (cur.setIfInBounds i v) t (0, 0)) := by
  simp [World.setCell, Array.getElem?_modify, h]
#print axioms Dk.file
#print axioms Dk.put
end Go.Proofs.YtldicnhpccionaaDoor
