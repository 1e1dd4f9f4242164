/-
Sync and Install of a disk's file.
-/
import Derived.Test.YtldicnhpccionaaDoorApp
namespace Go.Proofs.YtldicnhpccionaaDoor
open Go.RowKit
set_option linter.unusedVariables false
set_option linter.unusedSimpArgs false
@[go_sem ↓] theorem ap_B_syn (ty : TypeId) (args : Array Value) : Builtin.append_ #[25, 25] ty args = apRow #[25, 25] ty args := rfl
theorem Dk.B {B db mb : Nat} {down : Bool} {acts fuse keep : Int} {fs : List FileS} {w : World} (d : Dk B db mb down acts fuse keep fs w) : B ≤ w.heap.size := Nat.le_trans d.geD (Nat.le_of_lt (d.lt (.inl rfl)).2)
/-- what waits is safe now -/
theorem safe_any {B db mb : Nat} {down : Bool} {acts fuse keep : Int} {fs : List FileS} {w : World} (d0 : Dk B db mb down acts fuse keep fs w) {f : FileS} (hf : f ∈ fs) (hsz : f.len ≤ 1000000) :
    ∃ A' n' c' w2, (apRow #[25, 25] 25 #[f.sv, f.wv]).run Tryd.prog w.drew = .ok (.slice A' n' c') w2 ∧ w2.frozen? ⟨f.g, 0, none⟩ = false ∧ w2.frozen? ⟨f.g, 1, none⟩ = false ∧ w2.cell? ⟨f.g, 0, none⟩ = some f.sv ∧ w2.cell? ⟨f.g, 1, none⟩ = some f.wv ∧
      Dk B db mb down acts fuse keep (updF fs (f.safed (.slice A' n' c') f.u)) ((w2.setCell ⟨f.g, 0, none⟩ (.slice A' n' c')).setCell ⟨f.g, 1, none⟩ (.slice none 0 0)) ∧ Mv f.fp w ((w2.setCell ⟨f.g, 0, none⟩ (.slice A' n' c')).setCell ⟨f.g, 1, none⟩ (.slice none 0 0)) ∧
      (∀ i, dkFp db mb (updF fs (f.safed (.slice A' n' c') f.u)) i → dkFp db mb fs i ∨ w.heap.size ≤ i) := by
  have d := d0.below ((Below.refl _ _).drew)
  have ho := d.files f hf
  obtain ⟨v', w2, r2, o2, g2, e2⟩ := ob_both 25 ho.safe ho.waits (by have h2 : f.len = f.s.length + f.u.length := rfl; omega) d.B
  obtain ⟨A', c', rfl, -⟩ := ob_shape o2 rfl
  obtain ⟨d3, m3, z0, z1⟩ := d.safe hf o2 g2 e2
  have hcs : w2.heap[f.g]? = some (.cells #[f.sv, f.wv] 75 (0, 0)) := (g2.block f.g (ho.lt (.inl rfl)).2 (fun c => ho.gs c.symm)).trans ho.cells
  refine ⟨A', _, c', w2, r2, z0, z1, cell_at hcs rfl, cell_at hcs rfl, d3, ⟨m3.os, m3.tape, m3.output, m3.size, m3.block⟩, fun i hi => ?_⟩
  rcases hi with hi | hi | ⟨f2, hf2, hi⟩
  · exact .inl (.inl hi)
  · exact .inl (.inr (.inl hi))
  · rcases mem_updF hf2 with rfl | ⟨hf3, -⟩
    · rcases hi with hi | hi | hi
      · exact .inl (.inr (.inr ⟨f, hf, .inl hi⟩))
      · rcases e2 with e | e
        · exact .inl (.inr (.inr ⟨f, hf, .inr (.inl (e ▸ hi))⟩))
        · have hi' : (Value.slice A' (f.s ++ f.u).length c').ownBlock = some i := hi
          rw [e] at hi'
          exact .inr (Nat.le_of_eq (Option.some.inj hi'))
      · simp [FileS.safed, Value.ownBlock] at hi
    · exact .inl (.inr (.inr ⟨f2, hf3, hi⟩))
set_option maxRecDepth 100000 in
set_option maxHeartbeats 1000000 in
theorem sync_any {B db : Nat} {F : Nat → Prop} {p : PD} (nm : ByteArray) (w : World) (h : DkS B db F p w) (ok : p.ok) (hs : nm.size ≤ 1000000) :
    Calls Tryd.prog 40 #[.pointer (some ⟨db, 0, none⟩), .string nm] w (DkEnd B db F (syncP p nm).1 (.int .i64 (syncP p nm).2) w) := by
  have hS := Lib.hid h
  obtain ⟨mb, fs, d, c, hF⟩ := h.ex
  have HD := Lib.hid d
  have HC := Lib.hid c
  have HF := Lib.hid hF
  have OK := Lib.hid ok
  have ha := act_any B db mb p.down p.acts p.fuse p.keep fs w d ok.a0 ok.a1 ok.f0 ok.f1
  clear d c hF h ok
  go_enter Tryd.func40, Tryd.ntmps40
  go_wp2_with fail
  refine ha.mono ?_
  rintro e w2 (⟨hd, rfl, rfl⟩ | ⟨hd, hfu, rfl, d2, m2⟩ | ⟨hd, hfu, rfl, d2, m2⟩)
  · have c1 : w.cell? ⟨db, 1, none⟩ = some (.bool true) := hd ▸ cell_at HD.out.cells rfl
    clear ha
    go_wp2_with fail
    go_ret
    have e1 : syncP p nm = (p, 21) := by unfold syncP; rw [if_pos hd]
    rw [e1]
    exact ⟨rfl, hS.out.mono (fun i _ h => .inl h), Mv.refl _ _⟩
  · have c1 : w2.cell? ⟨db, 1, none⟩ = some (.bool false) := hd ▸ cell_at d2.cells rfl
    have x44 : w2.cell? ⟨db, 4, none⟩ = some (.int .i64 p.keep) := cell_at d2.cells rfl
    have hoff := Lib.hid (off_any B db mb (p.acts + 1) 0 p.keep fs w2 (hd ▸ d2) (by rw [sumF_con, HC.out]; exact OK.out.sum) p.keep)
    have M2 := Lib.hid m2
    clear ha d2 m2
    go_wp2_with fail
    refine hoff.out.mono ?_
    rintro e w6 ⟨rfl, fs6, d6, c6, m6, i6⟩
    go_wp2_with fail
    go_ret
    have e1 : syncP p nm = ({ p with down := true, acts := p.acts + 1, fuse := 0, cs := p.cs.map (offC p.keep) }, 21) := by
      unfold syncP
      rw [if_neg (by rw [hd]; decide), if_pos hfu]
      simp only [PD.lose, PD.tick, hd]
      rfl
    rw [e1]
    refine ⟨rfl, ⟨⟨mb, fs6, d6, by rw [c6, HC.out], fun i hi => ?_⟩⟩, ((M2.out.mono (fq := F) (fun i _ e => HF.out i (.inl e))).trans m6 (fun i hi h => HF.out i h))⟩
    rcases i6 i hi with h | h
    · exact .inl (HF.out i h)
    · have := M2.out.size; right; omega
  · generalize hFU : (if 0 < p.fuse then p.fuse - 1 else p.fuse) = FU at d2
    have c1 : w2.cell? ⟨db, 1, none⟩ = some (.bool false) := hd ▸ cell_at d2.cells rfl
    have hfi := Lib.hid (file_any2 B db mb p.down (p.acts + 1) FU p.keep fs nm w2 d2 hs d2.B (by rw [len_con, HC.out]; exact OK.out.len))
    have M2 := Lib.hid m2
    clear ha d2 m2
    go_wp2_with fail
    refine hfi.out.mono ?_
    rintro e w3 ⟨fs3, f, hf3, rfl, rfl, d3, m3, u3, i3, s3⟩
    have hfl3 := file_len hf3
    rw [s3, HC.out] at hfl3
    have hos := OK.out.sum
    obtain ⟨A', n', c', w4, r4, z0, z1, x0, x1, d5, m5, i5⟩ := safe_any d3 hf3 (by omega)
    have hcs := (d3.files f hf3).cells
    have y0 : w3.cell? ⟨f.g, 0, none⟩ = some f.sv := cell_at hcs rfl
    have y1 : w3.cell? ⟨f.g, 1, none⟩ = some f.wv := cell_at hcs rfl
    obtain ⟨A1, p1, e1, -⟩ := ob_shape (d3.files f hf3).safe rfl
    obtain ⟨A2, p2, e2, -⟩ := ob_shape (d3.files f hf3).waits rfl
    rw [e1] at y0 x0 r4
    rw [e2] at y1 x1 r4
    have hcon : con (updF fs3 (f.safed (.slice A' n' c') f.u)) = updC f.nm (fun x => (x.1 ++ x.2, [])) p.cs := by
      rw [updC_con d3.names (f' := f.safed (.slice A' n' c') f.u) (h := fun x => (x.1 ++ x.2, [])) hf3 rfl rfl, u3, HC.out]
    have hmv : Mv F w ((w4.setCell ⟨f.g, 0, none⟩ (.slice A' n' c')).setCell ⟨f.g, 1, none⟩ (.slice none 0 0)) := by
      refine ((M2.out.mono (fq := F) (fun i _ e => HF.out i (.inl e))).trans (fq := (· = mb)) m3 (fun i _ e => HF.out i (.inr (.inl e)))).trans (fq := f.fp) m5 (fun i hi hfi => ?_)
      rcases i3 i (.inr (.inr ⟨f, hf3, hfi⟩)) with h | h
      · exact HF.out i h
      · have := M2.out.size; omega
    have hin : ∀ i, dkFp db mb (updF fs3 (f.safed (.slice A' n' c') f.u)) i → orNew F w i := fun i hi => by
      have h1 := M2.out.size; have h3 := m3.size
      rcases i5 i hi with h | h
      · rcases i3 i h with h | h
        · exact .inl (HF.out i h)
        · right; omega
      · right; omega
    have E := Lib.hid (And.intro d5 (And.intro hcon (And.intro hmv hin)))
    clear d3 m3 u3 i3 s3 hfl3 d5 m5 i5 hcs e1 e2 hcon hmv hin hos
    go_wp2_with fail
    go_region
    go_wp2_with fail
    go_ret
    have e1 : syncP p f.nm = ({ p with acts := p.acts + 1, fuse := FU, cs := updC f.nm (fun x => (x.1 ++ x.2, [])) p.cs }, 0) := by
      unfold syncP
      rw [if_neg (by rw [hd]; decide), if_neg hfu]
      simp only [PD.tick, hFU]
    rw [e1]
    exact ⟨rfl, ⟨⟨mb, _, E.out.1, E.out.2.1, E.out.2.2.2⟩⟩, E.out.2.2.1⟩
end Go.Proofs.YtldicnhpccionaaDoor
