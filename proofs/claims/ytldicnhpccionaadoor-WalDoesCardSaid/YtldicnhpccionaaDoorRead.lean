/-
A file's bytes, read.
-/
import Derived.Test.YtldicnhpccionaaDoorSize
import Derived.Laws.OwnMore
namespace Go.Proofs.YtldicnhpccionaaDoor
open Go.RowKit
set_option linter.unusedVariables false
set_option linter.unusedSimpArgs false
/-- one row of one's own behind another -/
theorem ob_both {w : World} {B B2 : Nat} {v v2 : Value} {l m : List UInt8} (ty : TypeId) (h : OB w B v l) (h2 : OB w B2 v2 m) (hn : l.length + m.length ≤ 10000000) (hB : B ≤ w.heap.size) :
    ∃ v' w', (apRow #[25, 25] ty #[v, v2]).run Tryd.prog w = .ok v' w' ∧ OB w' B v' (l ++ m) ∧ w.grownBy w' v.ownBlock ∧ (v'.ownBlock = v.ownBlock ∨ v'.ownBlock = some w.heap.size) := by
  rcases Nat.eq_zero_or_pos m.length with h0 | h0
  · have hm0 : m = [] := List.length_eq_zero_iff.1 h0
    subst hm0
    rcases h2.2 with ⟨rfl, -⟩ | ⟨g, cap, cur, rfl, hg, hh, r⟩
    · obtain ⟨i0, hi, hz0, hz1, hz2⟩ := info_parts infoB
      exact ⟨v, w, run_append_owned_none w B 25 ty 5 i0 1 Tryd.underlying25 hi v l.length (bcs l) h, by rw [List.append_nil]; exact h, grown_refl _ _, .inl rfl⟩
    · exact ob_append (m := []) ty h ⟨g, 0, none⟩ cap (fun j u hu => by simp [bcs] at hu) hn hB
  · obtain ⟨A, cap, rfl, hc⟩ := ob_shape h2 rfl
    obtain ⟨g, cur, rfl, -⟩ := ob_cells h2 rfl h0
    exact ob_append ty h ⟨g, 0, none⟩ cap (fun j u hu => by
      obtain ⟨b, o, hA, hlt, hc⟩ := (h2.bl rfl).mem h0
      cases hA
      have := hc j u hu
      rw [Addr.add_mid]
      exact this) hn hB
@[go_sem ↓] theorem ap_B_rd (ty : TypeId) (args : Array Value) : Builtin.append_ #[25, 25] ty args = apRow #[25, 25] ty args := rfl
/-- a file's bytes -/
def ReadEnd (l : List UInt8) (w : World) (e : Ending) (w' : World) : Prop := ∃ v, e = .returned (.tuple #[v, .int .i64 0]) ∧ OB w' w.heap.size v l ∧ Below w.heap.size w w'
set_option maxRecDepth 100000 in
theorem read_any (B db mb : Nat) (acts fuse keep : Int) (fs : List FileS) (f : FileS) (w : World) (h : Dk B db mb false acts fuse keep fs w) (hf : f ∈ fs) (hs : f.nm.size ≤ 1000000) (hn : f.len ≤ 1000000) :
    Calls Tryd.prog 24 #[.pointer (some ⟨db, 0, none⟩), .string f.nm] w (ReadEnd (f.s ++ f.u) w) := by
  have hl := h.map.look_in hf hs
  have H := Lib.hid h
  have c0 : w.cell? ⟨db, 0, none⟩ = some (.map (some mb)) := cell_at h.cells rfl
  have c1 : w.cell? ⟨db, 1, none⟩ = some (.bool false) := cell_at h.cells rfl
  have hfo := h.files f hf
  have b1 : Below w.heap.size w (w.alloc (.cells #[] 5)).drew := (alloc_below w (.cells #[] 5)).drew
  have o1 : OB (w.alloc (.cells #[] 5)).drew w.heap.size (.slice (some ⟨w.heap.size, 0, none⟩) 0 0) [] := World.ownsRow_made w #[] 0 (Nat.le_refl _) (by decide) rfl
  have f1 := hfo.mv (Mv.of_below (fp := fun _ => False) b1) (fun _ _ c => c)
  obtain ⟨v2, w2, r2, o2, g2, e2⟩ := ob_both 25 o1 f1.safe (by have : f.len = f.s.length + f.u.length := rfl; simp; omega) (by simp)
  have m2 : Mv (· = w.heap.size) (w.alloc (.cells #[] 5)).drew w2 := Mv.of_grown g2 (fun k hk => by simp [Value.ownBlock] at hk; exact hk.symm)
  have f2 := f1.mv m2 (fun i hi e => by have := (hfo.lt hi).2; omega)
  have b2 : Below w.heap.size w w2 := b1.grown g2 (by simp) (fun k hk => by simp [Value.ownBlock] at hk; omega)
  rw [List.nil_append] at o2
  have hv2 : ∀ k, v2.ownBlock = some k → w.heap.size ≤ k := fun k hk => (ob_lt o2 hk).1
  obtain ⟨v3, w3, r3, o3, g3, e3⟩ := ob_both 25 o2 f2.waits (by have : f.len = f.s.length + f.u.length := rfl; omega) b2.size
  have b3 : Below w.heap.size w w3 := b2.grown g3 b2.size hv2
  have hcs := hfo.cells
  have cs1 : (w.alloc (.cells #[] 5)).drew.cell? ⟨f.g, 0, none⟩ = some f.sv := cell_at f1.cells rfl
  have cs2 : w2.cell? ⟨f.g, 1, none⟩ = some f.wv := cell_at f2.cells rfl
  have cs3 : (w.alloc (.cells #[] 5)).drew.cell? ⟨f.g, 1, none⟩ = some f.wv := cell_at f1.cells rfl
  have cs0 : w.cell? ⟨f.g, 0, none⟩ = some f.sv := cell_at hcs rfl
  have cs01 : w.cell? ⟨f.g, 1, none⟩ = some f.wv := cell_at hcs rfl
  obtain ⟨A1, p1, e1, -⟩ := ob_shape f1.safe rfl
  obtain ⟨A2, p2, e2', -⟩ := ob_shape f1.waits rfl
  rw [e1] at cs1 cs0 r2
  rw [e2'] at cs2 cs01 r3 cs3
  have E := Lib.hid (And.intro o3 b3)
  clear h hfo b1 o1 f1 g2 e2 m2 f2 b2 o2 hv2 g3 e3 o3 b3 hcs hs hn
  go_enter Tryd.func24, Tryd.ntmps24
  go_wp2_with fail
  go_region
  go_wp2_with fail
  go_ret2
  exact ⟨v3, rfl, E.out.1, E.out.2⟩
end Go.Proofs.YtldicnhpccionaaDoor
