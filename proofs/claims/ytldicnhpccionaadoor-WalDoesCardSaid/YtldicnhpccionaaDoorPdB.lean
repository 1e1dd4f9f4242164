/-
The power, the fuse and the reading of a disk, said of contents.
-/
import Derived.Test.YtldicnhpccionaaDoorIns
namespace Go.Proofs.YtldicnhpccionaaDoor
open Go.RowKit
set_option linter.unusedVariables false
set_option linter.unusedSimpArgs false
theorem off_S {B db : Nat} {F : Nat → Prop} {p : PD} (k : Int) (w : World) (h : DkS B db F p w) (ok : p.ok) :
    Calls Tryd.prog 21 #[.pointer (some ⟨db, 0, none⟩), .int .i64 k] w (DkEnd B db F (p.lose k) (.tuple #[]) w) := by
  obtain ⟨mb, fs, d, c, hF⟩ := h.ex
  cases hd : p.down with
  | true =>
    have c1 : w.cell? ⟨db, 1, none⟩ = some (.bool true) := hd ▸ cell_at d.cells rfl
    have e1 : p.lose k = p := by unfold PD.lose; rw [if_pos hd]
    have hS := Lib.hid h
    rw [e1]
    clear d c hF ok h
    go_enter Tryd.func21, Tryd.ntmps21
    go_wp2_with fail
    go_end0
    exact ⟨rfl, hS.out.mono (fun i _ h => .inl h), Mv.refl _ _⟩
  | false =>
    refine (off_any B db mb p.acts p.fuse p.keep fs w (hd ▸ d) (by rw [sumF_con, c]; exact ok.sum) k).mono ?_
    rintro e w' ⟨he, fs', d', c', m', i'⟩
    have e1 : p.lose k = { p with down := true, fuse := 0, cs := p.cs.map (offC k) } := by unfold PD.lose; rw [if_neg (by rw [hd]; decide)]
    rw [e1]
    exact ⟨he, ⟨⟨mb, fs', d', by rw [c', c], fun i hi => (i' i hi).imp (hF i) id⟩⟩, m'.mono (fun i _ hi => hF i hi)⟩
theorem on_S {B db : Nat} {F : Nat → Prop} {p : PD} (w : World) (h : DkS B db F p w) :
    Calls Tryd.prog 22 #[.pointer (some ⟨db, 0, none⟩)] w (DkEnd B db F { p with down := false } (.tuple #[]) w) := by
  obtain ⟨mb, fs, d, c, hF⟩ := h.ex
  refine (on_any B db mb p.down p.acts p.fuse p.keep fs w d).mono ?_
  rintro e w' ⟨he, d', m'⟩
  exact ⟨he, ⟨⟨mb, fs, d', c, fun i hi => .inl (hF i hi)⟩⟩, m'.mono (fun i _ hi => hF i (.inl hi))⟩
def PD.arm (p : PD) (n k : Int) : PD := { p with fuse := if n < 0 then 0 else n, keep := k }
theorem arm_S {B db : Nat} {F : Nat → Prop} {p : PD} (n k : Int) (w : World) (h : DkS B db F p w) :
    Calls Tryd.prog 18 #[.pointer (some ⟨db, 0, none⟩), .int .i64 n, .int .i64 k] w (DkEnd B db F (p.arm n k) (.tuple #[]) w) := by
  obtain ⟨mb, fs, d, c, hF⟩ := h.ex
  refine (arm_any B db mb p.down p.acts p.fuse p.keep fs w d n k).mono ?_
  rintro e w' ⟨he, d', m'⟩
  exact ⟨he, ⟨⟨mb, fs, d', c, fun i hi => .inl (hF i hi)⟩⟩, m'.mono (fun i _ hi => hF i (.inl hi))⟩
/-- a file's contents -/
def getC (nm : ByteArray) (cs : Con) : Option (List UInt8 × List UInt8) := (cs.find? fun x => decide (x.1 = nm)).map (·.2)
theorem getC_none {nm : ByteArray} {cs : Con} : getC nm cs = none ↔ hasNm nm cs = false := by
  unfold getC hasNm
  rw [Option.map_eq_none_iff, List.find?_eq_none, List.any_eq_false]
theorem getC_mem {nm : ByteArray} {cs : Con} {x : List UInt8 × List UInt8} (h : getC nm cs = some x) : (nm, x) ∈ cs := by
  unfold getC at h
  rw [Option.map_eq_some_iff] at h
  obtain ⟨y, hy, rfl⟩ := h
  have h1 := List.find?_some hy
  have h2 := List.mem_of_find?_eq_some hy
  simp only [decide_eq_true_eq] at h1
  rw [← h1]; exact h2
/-- what Read answers -/
def ReadS (p : PD) (nm : ByteArray) (w : World) (e : Ending) (w' : World) : Prop :=
  Below w.heap.size w w' ∧ ((p.down = true ∧ e = .returned (.tuple #[.slice none 0 0, .int .i64 21])) ∨
    (p.down = false ∧ getC nm p.cs = none ∧ e = .returned (.tuple #[.slice none 0 0, .int .i64 7])) ∨
    (p.down = false ∧ ∃ x v, getC nm p.cs = some x ∧ e = .returned (.tuple #[v, .int .i64 0]) ∧ OB w' w.heap.size v (x.1 ++ x.2)))
set_option maxRecDepth 100000 in
theorem read_S {B db : Nat} {F : Nat → Prop} {p : PD} (nm : ByteArray) (w : World) (h : DkS B db F p w) (ok : p.ok) (hs : nm.size ≤ 1000000) :
    Calls Tryd.prog 24 #[.pointer (some ⟨db, 0, none⟩), .string nm] w (ReadS p nm w) := by
  obtain ⟨mb, fs, d, c, hF⟩ := h.ex
  have c0 : w.cell? ⟨db, 0, none⟩ = some (.map (some mb)) := cell_at d.cells rfl
  cases hd : p.down with
  | true =>
    have c1 : w.cell? ⟨db, 1, none⟩ = some (.bool true) := hd ▸ cell_at d.cells rfl
    clear d c hF ok h
    go_enter Tryd.func24, Tryd.ntmps24
    go_wp2_with fail
    go_ret2
    exact ⟨Below.refl _ _, .inl ⟨hd, rfl⟩⟩
  | false =>
    have c1 : w.cell? ⟨db, 1, none⟩ = some (.bool false) := hd ▸ cell_at d.cells rfl
    cases hg : getC nm p.cs with
    | none =>
      have hno : ∀ f ∈ fs, f.nm ≠ nm := fun f hf e => by
        rw [getC_none] at hg
        have : hasNm nm p.cs = true := by rw [hasNm_iff, ← c, con_names]; exact List.mem_map.2 ⟨f, hf, e⟩
        rw [hg] at this; cases this
      have hl := d.map.look_no hno hs
      have HG := Lib.hid (And.intro hd hg)
      clear d c hF ok h hno hd hg
      go_enter Tryd.func24, Tryd.ntmps24
      go_wp2_with fail
      go_ret2
      exact ⟨Below.refl _ _, .inr (.inl ⟨HG.out.1, HG.out.2, rfl⟩)⟩
    | some x =>
      have hm := getC_mem hg
      rw [← c] at hm
      obtain ⟨f, hf, e⟩ := List.mem_map.1 hm
      obtain ⟨rfl, e2⟩ := Prod.mk.inj e
      have hfl := file_len hf
      rw [c] at hfl
      refine (read_any B db mb p.acts p.fuse p.keep fs f w (hd ▸ d) hf hs (Nat.le_trans hfl ok.sum)).mono ?_
      rintro e w' ⟨v, rfl, o, b⟩
      refine ⟨b, .inr (.inr ⟨hd, x, v, hg, rfl, ?_⟩)⟩
      rw [← e2]; exact o
/-- contents of the file of a name, behind the operations -/
theorem getC_upd (nm : ByteArray) (h : List UInt8 × List UInt8 → List UInt8 × List UInt8) (cs : Con) : getC nm (updC nm h cs) = some (h ((getC nm cs).getD ([], []))) := by
  cases hg : getC nm cs with
  | none =>
    have hh := getC_none.1 hg
    unfold updC
    rw [if_neg (by rw [hh]; decide)]
    unfold getC at hg ⊢
    rw [Option.map_eq_none_iff] at hg
    rw [List.find?_append, hg]
    simp
  | some x =>
    have hh : hasNm nm cs = true := by
      cases c : hasNm nm cs with
      | true => rfl
      | false => rw [getC_none.2 c] at hg; cases hg
    unfold updC
    rw [if_pos hh]
    unfold getC at hg ⊢
    rw [List.find?_map, Option.map_map]
    have : ((fun x : ByteArray × List UInt8 × List UInt8 => decide (x.1 = nm)) ∘ fun x => if x.1 = nm then (x.1, h x.2) else x) = fun x => decide (x.1 = nm) := by
      funext y
      simp only [Function.comp]
      split <;> rfl
    rw [this]
    rw [Option.map_eq_some_iff] at hg
    obtain ⟨y, hy, rfl⟩ := hg
    have h1 := List.find?_some hy
    simp only [decide_eq_true_eq] at h1
    rw [hy]
    simp only [Option.map_some, Function.comp, Option.getD_some]
    rw [if_pos h1]
theorem getC_off (nm : ByteArray) (k : Int) (cs : Con) : getC nm (cs.map (offC k)) = (getC nm cs).map fun x => (x.1 ++ keepN k x.2, []) := by
  unfold getC
  rw [List.find?_map, Option.map_map, Option.map_map]
  rfl
end Go.Proofs.YtldicnhpccionaaDoor
