/-
The disk's functions.
-/
import Derived.Test.YtldicnhpccionaaDoorDk
namespace Go.Proofs.YtldicnhpccionaaDoor
open Go.RowKit
set_option linter.unusedVariables false
set_option linter.unusedSimpArgs false

/-- an act has begun -/
def Act (B db mb : Nat) (down : Bool) (acts fuse keep : Int) (fs : List FileS) (w : World) (e : Ending) (w' : World) : Prop :=
  (down = true ∧ e = .returned (.int .i64 21) ∧ w = w') ∨
  (down = false ∧ fuse = 1 ∧ e = .returned (.int .i64 21) ∧ Dk B db mb down (acts + 1) 0 keep fs w' ∧ Mv (· = db) w w') ∨
  (down = false ∧ fuse ≠ 1 ∧ e = .returned (.int .i64 0) ∧ Dk B db mb down (acts + 1) (if 0 < fuse then fuse - 1 else fuse) keep fs w' ∧ Mv (· = db) w w')
set_option maxRecDepth 100000 in
theorem act_any (B db mb : Nat) (down : Bool) (acts fuse keep : Int) (fs : List FileS) (w : World) (h : Dk B db mb down acts fuse keep fs w) (ha : 0 ≤ acts) (ha2 : acts ≤ 1000000) (hf : 0 ≤ fuse) (hf2 : fuse ≤ 9223372036854775807) :
    Calls Tryd.prog 36 #[.pointer (some ⟨db, 0, none⟩)] w (Act B db mb down acts fuse keep fs w) := by
  have H := Lib.hid h
  have c0 : w.cell? ⟨db, 0, none⟩ = some (.map (some mb)) := cell_at h.cells rfl
  have c1 : w.cell? ⟨db, 1, none⟩ = some (.bool down) := cell_at h.cells rfl
  have c2 : w.cell? ⟨db, 2, none⟩ = some (.int .i64 acts) := cell_at h.cells rfl
  have c3 : w.cell? ⟨db, 3, none⟩ = some (.int .i64 fuse) := cell_at h.cells rfl
  have z2 : w.frozen? ⟨db, 2, none⟩ = false := frozen_at h.cells
  have z3 : w.frozen? ⟨db, 3, none⟩ = false := frozen_at h.cells
  clear h
  go_enter Tryd.func36, Tryd.ntmps36
  cases down with
  | true =>
    go_wp2_with fail
    go_ret
    exact .inl ⟨rfl, rfl, rfl⟩
  | false =>
    have m2 : Mv (· = db) w (w.setCell ⟨db, 2, none⟩ (.int .i64 (acts + 1))) := Mv.setCell w ⟨db, 2, none⟩ _ rfl
    have hc2 := setCell_at (i := 2) H.out.cells (.int .i64 (acts + 1))
    have d2 : Dk B db mb false (acts + 1) fuse keep fs (w.setCell ⟨db, 2, none⟩ (.int .i64 (acts + 1))) := H.out.turn m2 hc2
    have m3 : ∀ x : Int, Mv (· = db) w ((w.setCell ⟨db, 2, none⟩ (.int .i64 (acts + 1))).setCell ⟨db, 3, none⟩ (.int .i64 x)) := fun x => m2.trans (fq := (· = db)) (Mv.setCell _ ⟨db, 3, none⟩ _ rfl) (fun _ _ c => c)
    have d3 : ∀ x : Int, Dk B db mb false (acts + 1) x keep fs ((w.setCell ⟨db, 2, none⟩ (.int .i64 (acts + 1))).setCell ⟨db, 3, none⟩ (.int .i64 x)) := fun x => d2.turn (Mv.setCell _ ⟨db, 3, none⟩ _ rfl) (setCell_at (i := 3) hc2 _)
    clear hc2
    have D2 := Lib.hid d2
    have D3 := Lib.hid d3
    have M2 := Lib.hid m2
    have M3 := Lib.hid m3
    clear d2 d3 m2 m3
    go_wp2_with fail
    · rename_i h1 h2
      have h3 : fuse = 1 := by have := beq_iff_eq.1 h2; omega
      go_ret
      refine .inr (.inl ⟨rfl, h3, rfl, ?_, M3.out _⟩)
      have := D3.out (fuse - 1)
      rw [show fuse - 1 = 0 by omega] at this ⊢
      exact this
    · rename_i h1 h2
      have h3 : fuse ≠ 1 := fun e => by rw [e] at h2; cases h2
      go_ret
      refine .inr (.inr ⟨rfl, h3, rfl, ?_, M3.out _⟩)
      rw [if_pos h1]
      exact D3.out _
    · rename_i h1
      go_ret
      refine .inr (.inr ⟨rfl, by omega, rfl, ?_, M2.out⟩)
      rw [if_neg (by omega)]
      exact D2.out

def nilS : Value := .slice none 0 0
def newF (nm : ByteArray) (g : Nat) : FileS := ⟨nm, g, .slice none 0 0, .slice none 0 0, [], []⟩
theorem newF_ok (nm : ByteArray) (B : Nat) (w : World) (hB : B ≤ w.heap.size) : (newF nm w.heap.size).ok B (w.alloc (.cells #[.slice none 0 0, .slice none 0 0] 75)) :=
  ⟨(MapKept.heap_alloc w _).1, hB, ob_nil _ _, ob_nil _ _, by simp [newF, Value.ownBlock], by simp [newF, Value.ownBlock], by simp [newF, Value.ownBlock]⟩
theorem newF_fp {nm : ByteArray} {g i : Nat} (h : (newF nm g).fp i) : i = g := by
  rcases h with h | h | h
  · exact h
  · simp [newF, Value.ownBlock] at h
  · simp [newF, Value.ownBlock] at h
/-- the file of a name -/
def FileEnd (B db mb : Nat) (down : Bool) (acts fuse keep : Int) (fs : List FileS) (nm : ByteArray) (w : World) (e : Ending) (w' : World) : Prop :=
  (∃ f ∈ fs, f.nm = nm ∧ e = .returned (.pointer (some ⟨f.g, 0, none⟩)) ∧ w = w') ∨
  ((∀ f ∈ fs, f.nm ≠ nm) ∧ ∃ g, w.heap.size ≤ g ∧ e = .returned (.pointer (some ⟨g, 0, none⟩)) ∧ Dk B db mb down acts fuse keep (fs ++ [newF nm g]) w' ∧ Mv (· = mb) w w')
set_option maxRecDepth 100000 in
theorem file_any (B db mb : Nat) (down : Bool) (acts fuse keep : Int) (fs : List FileS) (nm : ByteArray) (w : World) (h : Dk B db mb down acts fuse keep fs w) (hs : nm.size ≤ 1000000) (hB : B ≤ w.heap.size) (hn : fs.length ≤ 1000000) :
    Calls Tryd.prog 37 #[.pointer (some ⟨db, 0, none⟩), .string nm] w (FileEnd B db mb down acts fuse keep fs nm w) := by
  have H := Lib.hid h
  have c0 : w.cell? ⟨db, 0, none⟩ = some (.map (some mb)) := cell_at h.cells rfl
  rcases Classical.em (∃ f ∈ fs, f.nm = nm) with ⟨f, hf, hnm⟩ | hno
  · have hl := h.map.look_in hf (by rw [hnm]; exact hs)
    rw [hnm] at hl
    have HF := Lib.hid (And.intro hf hnm)
    clear h hf hnm hn hB hs
    go_enter Tryd.func37, Tryd.ntmps37
    go_wp2_with fail
    go_ret
    exact .inl ⟨f, HF.out.1, HF.out.2, rfl, rfl⟩
  · have hno' : ∀ f ∈ fs, f.nm ≠ nm := fun f hf c => hno ⟨f, hf, c⟩
    have hl := h.map.look_no hno' hs
    have d1 := h.below (alloc_below w (.cells #[.slice none 0 0, .slice none 0 0] 75))
    obtain ⟨w2, r2, o2, g2⟩ := d1.map.store_add (newF nm w.heap.size) hno' hs hn
    have m2 : Mv (· = mb) (w.alloc (.cells #[.slice none 0 0, .slice none 0 0] 75)) w2 := Mv.of_grown g2 (fun k hk => (Option.some.inj hk).symm)
    have hl2 : (Instr.lookup 69 (.map (some mb)) (.string nm) false).run Tryd.prog w2 = .ok (.pointer (some ⟨w.heap.size, 0, none⟩)) w2 := o2.look_in (f := newF nm w.heap.size) (by simp) hs
    have r2 : (Instr.mapUpdate 69 (.map (some mb)) (.string nm) (.pointer (some ⟨w.heap.size, 0, none⟩))).run Tryd.prog (w.alloc (.cells #[.slice none 0 0, .slice none 0 0] 75)) = .ok () w2 := r2
    have d2 : Dk B db mb down acts fuse keep (fs ++ [newF nm w.heap.size]) w2 := d1.add _ hno' m2 o2 ((newF_ok nm B w hB).mv m2 (fun i hi e => by have h1 := newF_fp hi; have h2 := h.map.lt; omega)) (fun i hi c => by have h1 := newF_fp hi; have h2 := (h.lt c).2; omega)
    have D2 := Lib.hid d2
    have HN := Lib.hid hno'
    have D1 := Lib.hid d1
    have M2 := Lib.hid m2
    have O2 := Lib.hid o2
    have c2 : w2.cell? ⟨db, 0, none⟩ = some (.map (some mb)) := (m2.cell (p := ⟨db, 0, none⟩) (d1.lt (.inl rfl)).2 h.dm).trans (cell_at d1.cells rfl)
    clear h hno hno' d1 m2 o2 g2 d2 hn hB hs
    go_enter Tryd.func37, Tryd.ntmps37
    go_wp2_with fail
    go_ret
    exact .inr ⟨HN.out, _, Nat.le_refl _, rfl, D2.out, (Mv.of_below (alloc_below _ _)).trans (fq := (· = mb)) M2.out (fun _ _ c => c)⟩
end Go.Proofs.YtldicnhpccionaaDoor
