/-
Both disks beside each other.
-/
import Derived.Test.YtldicnhpccionaaDoorRn
namespace Go.Proofs.YtldicnhpccionaaDoor
open Go.RowKit
set_option linter.unusedVariables false
set_option linter.unusedSimpArgs false
/-- the disk and the reference's, in blocks that do not meet -/
structure Two (W : World) (db mb : Nat) (F G : Nat → Prop) (pd pm : PD) (w : World) : Prop where
  law : Law W db F pd w
  rk : RkS mb G pm w
  dj : ∀ i, F i → ¬ G i
  fl : ∀ i, F i → i < w.heap.size
  gl : ∀ i, G i → i < w.heap.size
  ge : ∀ i, G i → W.heap.size ≤ i
section
variable {W w w' : World} {db mb : Nat} {F G F' G' : Nat → Prop} {pd pm pd' pm' : PD}
def tight (F : Nat → Prop) (w : World) (i : Nat) : Prop := F i ∧ i < w.heap.size
theorem Two.d (h : Two W db mb F G pd pm w) (d : DkS W.heap.size db F' pd' w') (hF : ∀ i, F' i → orNew F w i) (m : Mv F w w') : Two W db mb (tight F' w') G pd' pm w' :=
  ⟨⟨d.mono (fun i hi hF => ⟨hF, hi⟩), fun i hi => (hF i hi.1).elim (h.law.ge i) (fun c => Nat.le_trans h.law.bel.size c), h.law.bel.trans (m.below h.law.bel.size h.law.ge)⟩,
    h.rk.mv m (fun i hi c => h.dj i c hi), fun i hi c => (hF i hi.1).elim (fun hf => h.dj i hf c) (fun hn => by have := h.gl i c; omega), fun i hi => hi.2, fun i hi => Nat.lt_of_lt_of_le (h.gl i hi) m.size, h.ge⟩
theorem Two.m (h : Two W db mb F G pd pm w) (r : RkS mb G' pm' w') (hG : ∀ i, G' i → orNew G w i) (m : Mv G w w') : Two W db mb F (tight G' w') pd pm' w' :=
  ⟨⟨h.law.dk.mv m (fun i hi c => h.dj i hi c), h.law.ge, h.law.bel.trans (m.below h.law.bel.size h.ge)⟩,
    r.mono (fun i hi hg => ⟨hg, hi⟩), fun i hi c => (hG i c.1).elim (fun hg => h.dj i hi hg) (fun hn => by have := h.fl i hi; omega), fun i hi => Nat.lt_of_lt_of_le (h.fl i hi) m.size, fun i hi => hi.2, fun i hi => (hG i hi.1).elim (h.ge i) (fun c => Nat.le_trans h.law.bel.size c)⟩
theorem Two.below (h : Two W db mb F G pd pm w) (b : Below w.heap.size w w') : Two W db mb F G pd pm w' :=
  ⟨h.law.below b, h.rk.mv (Mv.of_below (fp := fun _ => False) b) (fun _ _ c => c), h.dj, fun i hi => Nat.lt_of_lt_of_le (h.fl i hi) b.size, fun i hi => Nat.lt_of_lt_of_le (h.gl i hi) b.size, h.ge⟩
/-- a log beside both -/
structure LogG (w : World) (lb db : Nat) (F G : Nat → Prop) : Prop where
  s : LogS w lb db nmLog F
  g : ¬ G lb
theorem LogG.d {lb : Nat} (h : LogG w lb db F G) (hF : ∀ i, F' i → orNew F w i) (m : Mv F w w') : LogG w' lb db (tight F' w') G :=
  ⟨⟨(h.s.opened m hF).at', fun c => (h.s.opened m hF).no c.1⟩, h.g⟩
theorem LogG.m {lb : Nat} (h : LogG w lb db F G) (hG : ∀ i, G' i → orNew G w i) (m : Mv G w w') : LogG w' lb db F (tight G' w') :=
  ⟨⟨h.s.at'.mv m h.g, h.s.no⟩, fun c => (hG _ c.1).elim h.g (fun c => by have := h.s.at'.lt; omega)⟩
theorem LogG.below {lb : Nat} (h : LogG w lb db F G) (b : Below w.heap.size w w') : LogG w' lb db F G := ⟨h.s.below b, h.g⟩
/-- a block beside both -/
structure Kp (w : World) (F G : Nat → Prop) (B : Nat) (ob : Obj) : Prop where
  at' : w.heap[B]? = some ob
  f : ¬ F B
  g : ¬ G B
theorem Kp.lt {B : Nat} {ob : Obj} (h : Kp w F G B ob) : B < w.heap.size := (Array.getElem?_eq_some_iff.1 h.at').1
theorem Kp.d {B : Nat} {ob : Obj} (h : Kp w F G B ob) (hF : ∀ i, F' i → orNew F w i) (m : Mv F w w') : Kp w' (tight F' w') G B ob :=
  ⟨(m.block B h.lt h.f).trans h.at', fun c => (hF _ c.1).elim h.f (fun c => by have := h.lt; omega), h.g⟩
theorem Kp.m {B : Nat} {ob : Obj} (h : Kp w F G B ob) (hG : ∀ i, G' i → orNew G w i) (m : Mv G w w') : Kp w' F (tight G' w') B ob :=
  ⟨(m.block B h.lt h.g).trans h.at', h.f, fun c => (hG _ c.1).elim h.g (fun c => by have := h.lt; omega)⟩
theorem Kp.below {B : Nat} {ob : Obj} (h : Kp w F G B ob) (b : Below w.heap.size w w') : Kp w' F G B ob := ⟨(b.block B h.lt).trans h.at', h.f, h.g⟩
/-- a log, or none; a block that is kept -/
def LogV (w : World) (db : Nat) (F G : Nat → Prop) (v : Value × Nat × Obj) : Prop := (v.1 = .pointer none ∨ ∃ lb, v.1 = .pointer (some ⟨lb, 0, none⟩) ∧ LogG w lb db F G) ∧ Kp w F G v.2.1 v.2.2
theorem LogV.d {v : Value × Nat × Obj} (h : LogV w db F G v) (hF : ∀ i, F' i → orNew F w i) (m : Mv F w w') : LogV w' db (tight F' w') G v := by
  refine ⟨?_, h.2.d hF m⟩
  rcases h.1 with h | ⟨lb, h, g⟩
  · exact .inl h
  · exact .inr ⟨lb, h, g.d hF m⟩
theorem LogV.m {v : Value × Nat × Obj} (h : LogV w db F G v) (hG : ∀ i, G' i → orNew G w i) (m : Mv G w w') : LogV w' db F (tight G' w') v := by
  refine ⟨?_, h.2.m hG m⟩
  rcases h.1 with h | ⟨lb, h, g⟩
  · exact .inl h
  · exact .inr ⟨lb, h, g.m hG m⟩
theorem LogV.below {v : Value × Nat × Obj} (h : LogV w db F G v) (b : Below w.heap.size w w') : LogV w' db F G v := by
  refine ⟨?_, h.2.below b⟩
  rcases h.1 with h | ⟨lb, h, g⟩
  · exact .inl h
  · exact .inr ⟨lb, h, g.below b⟩
/-- both, and a log -/
structure Do (W : World) (db mb : Nat) (pd pm : PD) (lv : Value × Nat × Obj) (w : World) : Prop where
  ex : ∃ F G, Two W db mb F G pd pm w ∧ LogV w db F G lv
theorem Do.bel {lv : Value × Nat × Obj} (h : Do W db mb pd pm lv w) : Below W.heap.size W w := by obtain ⟨F, G, t, -⟩ := h.ex; exact t.law.bel
theorem Do.below {lv : Value × Nat × Obj} (h : Do W db mb pd pm lv w) (b : Below w.heap.size w w') : Do W db mb pd pm lv w' := by
  obtain ⟨F, G, t, l⟩ := h.ex
  exact ⟨F, G, t.below b, l.below b⟩
theorem Do.nd {lv : Value × Nat × Obj} (h : Do W db mb pd pm lv w) : pd.cs.Pairwise fun x y => x.1 ≠ y.1 := by obtain ⟨F, G, t, -⟩ := h.ex; exact t.law.dk.nd
end
section
variable {W w : World} {db mb : Nat} {pd pm : PD} {lv : Value × Nat × Obj} {a s l : Nat}
theorem Do.cell {v : Value} {kb : Nat} {cs : Array Value} {ty : TypeId} {i : Nat} {u : Value} (h : Do W db mb pd pm (v, kb, .cells cs ty (0, 0)) w) (hi : cs[i]? = some u) : w.cell? ⟨kb, i, none⟩ = some u := by
  obtain ⟨F, G, t, hv⟩ := h.ex
  exact cell_at hv.2.at' hi
/-- another block is kept: a new one -/
theorem Do.keep {v : Value} {kb : Nat} {ko : Obj} (h : Do W db mb pd pm (v, kb, ko) w) (cs : Array Value) (ty : TypeId) : Do W db mb pd pm (v, w.heap.size, .cells cs ty (0, 0)) (w.alloc (.cells cs ty)) := by
  obtain ⟨F, G, t, hv⟩ := h.ex
  have b := alloc_below w (.cells cs ty)
  exact ⟨F, G, t.below b, (hv.below b).1, ⟨heap_alloc_new _ _, fun c => absurd (t.fl _ c) (Nat.lt_irrefl _), fun c => absurd (t.gl _ c) (Nat.lt_irrefl _)⟩⟩
/-- what an act of both leaves -/
def DoEnd (W : World) (db mb : Nat) (pd pm : PD) (lv : Value × Nat × Obj) (v : Value) (e : Ending) (w' : World) : Prop := e = .returned v ∧ Do W db mb pd pm lv w'
theorem do_lAppend {P : Nat → Prop} {lb : Nat} (v : Value) (ls : List (List UInt8)) {kb : Nat} {ko : Obj} (h : Do W db mb pd pm (.pointer (some ⟨lb, 0, none⟩), kb, ko) w) (ft : pd.fit a s l) (ha : a ≤ 10000) (hl : l ≤ 10000) (hL : Lst P w v ls) (htab : Tab W) (h0 : 0 < W.heap.size) (hs : s + (framesL ls).length ≤ 100000) :
    Calls Tryd.prog 19 #[.pointer (some ⟨lb, 0, none⟩), v] w (DoEnd W db mb (appendP pd nmLog (framesL ls)).1 pm (.pointer (some ⟨lb, 0, none⟩), kb, ko) (.int .i64 (appendP pd nmLog (framesL ls)).2)) := by
  obtain ⟨F, G, t, hv⟩ := h.ex
  have hg : LogG w lb db F G := by
    rcases hv.1 with hv | ⟨lb2, hv, g⟩
    · cases hv
    · cases hv; exact g
  refine (lAppend_law v ls t.law hg.s ft ha hl (by decide) hL htab h0 hs).mono ?_
  rintro e w' ⟨he, L', -, -, m⟩
  exact ⟨he, ⟨_, _, t.d L'.dk (fun i hi => hi) m, hv.d (fun i hi => hi) m⟩⟩
theorem do_lReset {P : Nat → Prop} {lb : Nat} (v : Value) (ls : List (List UInt8)) {kb : Nat} {ko : Obj} (h : Do W db mb pd pm (.pointer (some ⟨lb, 0, none⟩), kb, ko) w) (ft : pd.fit a s l) (ha : a ≤ 10000) (hl : l ≤ 10000) (hL : Lst P w v ls) (htab : Tab W) (h0 : 0 < W.heap.size) (hs : s + (framesL ls).length ≤ 100000) :
    Calls Tryd.prog 23 #[.pointer (some ⟨lb, 0, none⟩), v] w (DoEnd W db mb (installP pd nmLog (framesL ls)).1 pm (.pointer (some ⟨lb, 0, none⟩), kb, ko) (.int .i64 (installP pd nmLog (framesL ls)).2)) := by
  obtain ⟨F, G, t, hv⟩ := h.ex
  have hg : LogG w lb db F G := by
    rcases hv.1 with hv | ⟨lb2, hv, g⟩
    · cases hv
    · cases hv; exact g
  refine (lReset_law v ls t.law hg.s ft ha hl (by decide) hL htab h0 hs).mono ?_
  rintro e w' ⟨he, L', -, -, m⟩
  exact ⟨he, ⟨_, _, t.d L'.dk (fun i hi => hi) m, hv.d (fun i hi => hi) m⟩⟩
theorem do_lSync {lb : Nat} {kb : Nat} {ko : Obj} (h : Do W db mb pd pm (.pointer (some ⟨lb, 0, none⟩), kb, ko) w) (ft : pd.fit a s l) (ha : a ≤ 10000) (hl : l ≤ 10000) (hs : s ≤ 100000) :
    Calls Tryd.prog 20 #[.pointer (some ⟨lb, 0, none⟩)] w (DoEnd W db mb (syncP pd nmLog).1 pm (.pointer (some ⟨lb, 0, none⟩), kb, ko) (.int .i64 (syncP pd nmLog).2)) := by
  obtain ⟨F, G, t, hv⟩ := h.ex
  have hg : LogG w lb db F G := by
    rcases hv.1 with hv | ⟨lb2, hv, g⟩
    · cases hv
    · cases hv; exact g
  refine (lSync_law t.law hg.s ft ha hs hl (by decide)).mono ?_
  rintro e w' ⟨he, L', -, -, m⟩
  exact ⟨he, ⟨_, _, t.d L'.dk (fun i hi => hi) m, hv.d (fun i hi => hi) m⟩⟩
theorem do_off (k : Int) (h : Do W db mb pd pm lv w) (ft : pd.fit a s l) (ha : a ≤ 10000) (hl : l ≤ 10000) (hs : s ≤ 100000) :
    Calls Tryd.prog 21 #[.pointer (some ⟨db, 0, none⟩), .int .i64 k] w (DoEnd W db mb (pd.lose k) pm lv (.tuple #[])) := by
  obtain ⟨F, G, t, hv⟩ := h.ex
  refine (off_S k w t.law.dk (ft.ok (by omega) (by omega) (by omega))).mono ?_
  rintro e w' ⟨he, d, m⟩
  exact ⟨he, ⟨_, _, t.d d (fun i hi => hi) m, hv.d (fun i hi => hi) m⟩⟩
theorem do_on (h : Do W db mb pd pm lv w) :
    Calls Tryd.prog 22 #[.pointer (some ⟨db, 0, none⟩)] w (DoEnd W db mb { pd with down := false } pm lv (.tuple #[])) := by
  obtain ⟨F, G, t, hv⟩ := h.ex
  refine (on_S w t.law.dk).mono ?_
  rintro e w' ⟨he, d, m⟩
  exact ⟨he, ⟨_, _, t.d d (fun i hi => hi) m, hv.d (fun i hi => hi) m⟩⟩
theorem do_arm (n k : Int) (h : Do W db mb pd pm lv w) :
    Calls Tryd.prog 18 #[.pointer (some ⟨db, 0, none⟩), .int .i64 n, .int .i64 k] w (DoEnd W db mb (pd.arm n k) pm lv (.tuple #[])) := by
  obtain ⟨F, G, t, hv⟩ := h.ex
  refine (arm_S n k w t.law.dk).mono ?_
  rintro e w' ⟨he, d, m⟩
  exact ⟨he, ⟨_, _, t.d d (fun i hi => hi) m, hv.d (fun i hi => hi) m⟩⟩
theorem do_append (A : Option Addr) (n cap : Nat) (b : List UInt8) (h : Do W db mb pd pm lv w) (ft : pd.fit a s l) (ha : a ≤ 10000) (hl : l ≤ 10000) (hs : s + n ≤ 100000) (hb : BL w A b) (hn : b.length = n) (hA : A = none → cap = 0 ∧ b = []) (hbW : ∀ g o, A = some ⟨g, o, none⟩ → 0 < b.length → g < W.heap.size) :
    Calls Tryd.prog 14 #[.pointer (some ⟨db, 0, none⟩), .string nmLog, .slice A n cap] w (DoEnd W db mb (appendP pd nmLog b).1 pm lv (.int .i64 (appendP pd nmLog b).2)) := by
  obtain ⟨F, G, t, hv⟩ := h.ex
  refine (append_any nmLog A n cap b w t.law.dk (ft.ok (by omega) (by omega) (by omega)) (by decide) hb hn hA (fun g o e h0 c => by have := hbW g o e h0; have := t.law.ge g c; omega) (by have := ft.sum; omega)).mono ?_
  rintro e w' ⟨he, d, m⟩
  exact ⟨he, ⟨_, _, t.d d (fun i hi => hi) m, hv.d (fun i hi => hi) m⟩⟩
theorem do_rAppend (b : List UInt8) (h : Do W db mb pd pm lv w) (ft : pm.fit a s l) (ha : a ≤ 10000) (hl : l ≤ 10000) (hs : s + b.length ≤ 100000) :
    Calls Tryd.prog 25 #[.pointer (some ⟨mb, 0, none⟩), .string nmLog, .string (tx b)] w (DoEnd W db mb pd (appendP pm nmLog b).1 lv (.int .i64 (appendP pm nmLog b).2)) := by
  obtain ⟨F, G, t, hv⟩ := h.ex
  refine (rappend_S b w t.rk (ft.ok (by omega) (by omega) (by omega)) (by have := ft.sum; omega)).mono ?_
  rintro e w' ⟨he, d, m⟩
  exact ⟨he, ⟨_, _, t.m d (fun i hi => hi) m, hv.m (fun i hi => hi) m⟩⟩
theorem do_rInstall (b : List UInt8) (h : Do W db mb pd pm lv w) (ft : pm.fit a s l) (ha : a ≤ 10000) (hl : l ≤ 10000) (hs : s + b.length ≤ 100000) :
    Calls Tryd.prog 28 #[.pointer (some ⟨mb, 0, none⟩), .string nmLog, .string (tx b)] w (DoEnd W db mb pd (installP pm nmLog b).1 lv (.int .i64 (installP pm nmLog b).2)) := by
  obtain ⟨F, G, t, hv⟩ := h.ex
  refine (rinstall_S b w t.rk (ft.ok (by omega) (by omega) (by omega)) (by have := ft.sum; omega)).mono ?_
  rintro e w' ⟨he, d, m⟩
  exact ⟨he, ⟨_, _, t.m d (fun i hi => hi) m, hv.m (fun i hi => hi) m⟩⟩
theorem do_rSync (h : Do W db mb pd pm lv w) (ft : pm.fit a s l) (ha : a ≤ 10000) (hl : l ≤ 10000) (hs : s ≤ 100000) :
    Calls Tryd.prog 27 #[.pointer (some ⟨mb, 0, none⟩), .string nmLog] w (DoEnd W db mb pd (syncP pm nmLog).1 lv (.int .i64 (syncP pm nmLog).2)) := by
  obtain ⟨F, G, t, hv⟩ := h.ex
  refine (rsync_S w t.rk (ft.ok (by omega) (by omega) (by omega))).mono ?_
  rintro e w' ⟨he, d, m⟩
  exact ⟨he, ⟨_, _, t.m d (fun i hi => hi) m, hv.m (fun i hi => hi) m⟩⟩
theorem do_rLose (k : Int) (h : Do W db mb pd pm lv w) (ft : pm.fit a s l) (ha : a ≤ 10000) (hl : l ≤ 10000) (hs : s ≤ 100000) :
    Calls Tryd.prog 29 #[.pointer (some ⟨mb, 0, none⟩), .int .i64 k] w (DoEnd W db mb pd (pm.lose k) lv (.tuple #[])) := by
  obtain ⟨F, G, t, hv⟩ := h.ex
  refine (rlose_S k w t.rk (ft.ok (by omega) (by omega) (by omega))).mono ?_
  rintro e w' ⟨he, d, m⟩
  exact ⟨he, ⟨_, _, t.m d (fun i hi => hi) m, hv.m (fun i hi => hi) m⟩⟩
theorem do_rArm (n k : Int) (h : Do W db mb pd pm lv w) :
    Calls Tryd.prog 30 #[.pointer (some ⟨mb, 0, none⟩), .int .i64 n, .int .i64 k] w (DoEnd W db mb pd (pm.arm n k) lv (.tuple #[])) := by
  obtain ⟨F, G, t, hv⟩ := h.ex
  refine (rarm_S n k w t.rk).mono ?_
  rintro e w' ⟨he, d, m⟩
  exact ⟨he, ⟨_, _, t.m d (fun i hi => hi) m, hv.m (fun i hi => hi) m⟩⟩
/-- the power is on again: the reference's field is written -/
theorem do_rOn (h : Do W db mb pd pm lv w) : w.frozen? ⟨mb, 1, none⟩ = false ∧ w.cell? ⟨mb, 1, none⟩ = some (.bool pm.down) ∧ Do W db mb pd { pm with down := false } lv (w.setCell ⟨mb, 1, none⟩ (.bool false)) := by
  obtain ⟨F, G, t, hv⟩ := h.ex
  obtain ⟨v, r, hG⟩ := t.rk.ex
  have m : Mv (· = mb) w (w.setCell ⟨mb, 1, none⟩ (.bool false)) := Mv.setCell w ⟨mb, 1, none⟩ _ rfl
  have r' : RkS mb (orNew G w) { pm with down := false } (w.setCell ⟨mb, 1, none⟩ (.bool false)) := ⟨⟨v, ⟨setCell_at (i := 1) r.cells _, r.file.mv m (fun g hg => (r.file.ne hg).1)⟩, fun i hi => .inl (hG i hi)⟩⟩
  have m' : Mv G w (w.setCell ⟨mb, 1, none⟩ (.bool false)) := m.mono (fun i _ e => by rw [e]; exact hG _ (.inl rfl))
  exact ⟨frozen_at r.cells, cell_at r.cells rfl, ⟨_, _, t.m r' (fun i hi => hi) m', hv.m (fun i hi => hi) m'⟩⟩
end
end Go.Proofs.YtldicnhpccionaaDoor
