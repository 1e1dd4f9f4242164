/-
Append to a disk's file.
-/
import Derived.Test.YtldicnhpccionaaDoorPd
namespace Go.Proofs.YtldicnhpccionaaDoor
open Go.RowKit
set_option linter.unusedVariables false
set_option linter.unusedSimpArgs false
/-- bytes behind a row of one's own, from wherever -/
theorem ob_any {w : World} {B : Nat} {v : Value} {l m : List UInt8} {A : Option Addr} {n : Nat} (cap : Nat) (ty : TypeId) (h : OB w B v l) (h2 : BL w A m) (hm : m.length = n) (hA : A = none → cap = 0 ∧ m = []) (hn : l.length + m.length ≤ 10000000) (hB : B ≤ w.heap.size) :
    ∃ v' w', (apRow #[25, 25] ty #[v, .slice A n cap]).run Tryd.prog w = .ok v' w' ∧ OB w' B v' (l ++ m) ∧ w.grownBy w' v.ownBlock ∧ (v'.ownBlock = v.ownBlock ∨ v'.ownBlock = some w.heap.size) := by
  subst hm
  cases A with
  | none =>
    obtain ⟨rfl, rfl⟩ := hA rfl
    exact ob_both ty h (ob_nil w B) hn hB
  | some a =>
    refine ob_append ty h a cap (fun j u hu => ?_) hn hB
    have hj := (List.getElem?_eq_some_iff.1 hu).1
    rw [bcs_len] at hj
    obtain ⟨b, o, hA, hlt, hc⟩ := h2.mem (by omega)
    cases hA
    rw [Addr.add_mid]
    exact hc j u hu
@[go_sem ↓] theorem ap_B_app (ty : TypeId) (args : Array Value) : Builtin.append_ #[25, 25] ty args = apRow #[25, 25] ty args := rfl
/-- behind the file's name: bytes are appended to what waits -/
theorem wait_any {B db mb : Nat} {down : Bool} {acts fuse keep : Int} {fs : List FileS} {w : World} (d : Dk B db mb down acts fuse keep fs w) {f : FileS} (hf : f ∈ fs) {A : Option Addr} {n cap : Nat} {b : List UInt8} (hb : BL w A b) (hl : b.length = n) (hA : A = none → cap = 0 ∧ b = []) (hsz : f.u.length + n ≤ 1000000) :
    ∃ A' n' c' w2, (apRow #[25, 25] 25 #[f.wv, .slice A n cap]).run Tryd.prog w = .ok (.slice A' n' c') w2 ∧ w2.frozen? ⟨f.g, 1, none⟩ = false ∧ w2.cell? ⟨f.g, 1, none⟩ = some f.wv ∧
      Dk B db mb down acts fuse keep (updF fs (f.longer (.slice A' n' c') b)) (w2.setCell ⟨f.g, 1, none⟩ (.slice A' n' c')) ∧ Mv f.fp w (w2.setCell ⟨f.g, 1, none⟩ (.slice A' n' c')) ∧ (∀ i, dkFp db mb (updF fs (f.longer (.slice A' n' c') b)) i → dkFp db mb fs i ∨ w.heap.size ≤ i) := by
  have ho := d.files f hf
  obtain ⟨v', w2, r2, o2, g2, e2⟩ := ob_any cap 25 ho.waits hb hl hA (by omega) (Nat.le_trans d.geD (Nat.le_of_lt (d.lt (.inl rfl)).2))
  obtain ⟨A', c', rfl, -⟩ := ob_shape o2 rfl
  obtain ⟨d3, m3, z1⟩ := d.wait hf o2 g2 e2
  have hcs : w2.heap[f.g]? = some (.cells #[f.sv, f.wv] 75 (0, 0)) := (g2.block f.g (ho.lt (.inl rfl)).2 (fun c => ho.gw c.symm)).trans ho.cells
  refine ⟨A', _, c', w2, r2, z1, cell_at hcs rfl, d3, m3, fun i hi => ?_⟩
  rcases hi with hi | hi | ⟨f2, hf2, hi⟩
  · exact .inl (.inl hi)
  · exact .inl (.inr (.inl hi))
  · rcases mem_updF hf2 with rfl | ⟨hf3, -⟩
    · rcases hi with hi | hi | hi
      · exact .inl (.inr (.inr ⟨f, hf, .inl hi⟩))
      · exact .inl (.inr (.inr ⟨f, hf, .inr (.inl hi)⟩))
      · rcases e2 with e | e
        · exact .inl (.inr (.inr ⟨f, hf, .inr (.inr (e ▸ hi))⟩))
        · have hi' : (Value.slice A' (f.u ++ b).length c').ownBlock = some i := hi
          rw [e] at hi'
          exact .inr (Nat.le_of_eq (Option.some.inj hi'))
    · exact .inl (.inr (.inr ⟨f2, hf3, hi⟩))
theorem DkS.tight {B db : Nat} {F : Nat → Prop} {p : PD} {w : World} (h : DkS B db F p w) : DkS B db (fun i => F i ∧ i < w.heap.size) p w := h.mono fun i hi hf => ⟨hf, hi⟩
theorem len_con (fs : List FileS) : fs.length = (con fs).length := by simp [con]
theorem file_len {fs : List FileS} {f : FileS} (hf : f ∈ fs) : f.len ≤ sumC (con fs) := by
  rw [← sumF_con]
  induction fs with
  | nil => cases hf
  | cons g r ih =>
    simp only [sumF, sumL]
    rcases List.mem_cons.1 hf with rfl | hf
    · simp
    · have := ih hf
      simp only [sumF] at this
      simp; omega
theorem sum_upd {fs : List FileS} (hn : fs.Pairwise fun f f' => f.nm ≠ f'.nm) {f f' : FileS} (hf : f ∈ fs) (hnm : f.nm = f'.nm) : sumF (updF fs f') + f.len = sumF fs + f'.len := by
  induction fs with
  | nil => cases hf
  | cons g r ih =>
    rw [List.pairwise_cons] at hn
    rcases List.mem_cons.1 hf with rfl | hf
    · have h1 : updF (f :: r) f' = f' :: r := by
        unfold updF
        rw [List.map_cons, if_pos hnm]
        congr 1
        refine (List.map_congr_left fun x hx => ?_).trans (List.map_id' r)
        exact if_neg (fun e => hn.1 x hx (hnm.trans e.symm))
      rw [h1]
      simp only [sumF, sumL]
      simp; omega
    · have h1 : updF (g :: r) f' = g :: updF r f' := by
        unfold updF
        rw [List.map_cons, if_neg (fun e => hn.1 f hf (e.trans hnm.symm))]
      rw [h1]
      have := ih hn.2 hf
      simp only [sumF, sumL] at this ⊢
      simp; omega
theorem cell_past {w : World} {a p : Addr} {v u : Value} (h : (w.setCell a v).cell? p = some u) (hne : p.block ≠ a.block) : w.cell? p = some u := by
  have : (w.setCell a v).heap[p.block]? = w.heap[p.block]? := heap_setCell_other w a p.block v hne
  rw [← World.cell?_of_block (w := w) this]; exact h
set_option maxRecDepth 100000 in
set_option maxHeartbeats 1000000 in
theorem append_any {B db : Nat} {F : Nat → Prop} {p : PD} (nm : ByteArray) (A : Option Addr) (n cap : Nat) (b : List UInt8) (w : World) (h : DkS B db F p w) (ok : p.ok) (hs : nm.size ≤ 1000000) (hb : BL w A b) (hl : b.length = n) (hA : A = none → cap = 0 ∧ b = [])
    (hbF : ∀ g o, A = some ⟨g, o, none⟩ → 0 < b.length → ¬ F g) (hf : sumC p.cs + n ≤ 1000000) :
    Calls Tryd.prog 14 #[.pointer (some ⟨db, 0, none⟩), .string nm, .slice A n cap] w (DkEnd B db F (appendP p nm b).1 (.int .i64 (appendP p nm b).2) w) := by
  have hS := Lib.hid h
  obtain ⟨mb, fs, d, c, hF⟩ := h.ex
  have HD := Lib.hid d
  have HC := Lib.hid c
  have HF := Lib.hid hF
  have HB := Lib.hid hb
  have HBF := Lib.hid hbF
  have hact := act_any B db mb p.down p.acts p.fuse p.keep fs
  have c1 : w.cell? ⟨db, 1, none⟩ = some (.bool p.down) := cell_at d.cells rfl
  have OK := Lib.hid ok
  clear d c hF hb hbF h ok
  go_enter Tryd.func14, Tryd.ntmps14
  cases hd : p.down with
  | true =>
    rw [hd] at c1
    have ha := hact w HD.out OK.out.a0 OK.out.a1 OK.out.f0 OK.out.f1
    clear hact
    go_wp2_with fail
    refine ha.mono ?_
    rintro e w1 (⟨-, rfl, rfl⟩ | ⟨h, -⟩ | ⟨h, -⟩)
    · go_wp2_with fail
      go_ret
      have e1 : appendP p nm b = (p, 21) := by unfold appendP; rw [if_pos hd]
      rw [e1]
      exact ⟨rfl, hS.out.mono (fun i _ h => .inl h), Mv.refl _ _⟩
    · rw [hd] at h; cases h
    · rw [hd] at h; cases h
  | false =>
    rw [hd] at c1
    have hsz := size_any B db mb p.down p.acts p.fuse p.keep fs w HD.out (by rw [sumF_con, HC.out]; exact OK.out.sum)
    go_wp2_with fail
    generalize hS' : sumF fs = S at hsz
    have hSi : ((S : Nat) : Int) + n ≤ 1000000 := by rw [← hS', sumF_con, HC.out]; omega
    have hSn : ¬ (4194304 : Int) < S + n := by omega
    have hfl : fs.length ≤ 1000000 := by rw [len_con, HC.out]; exact OK.out.len
    refine hsz.mono ?_
    rintro e w1 ⟨rfl, hb1⟩
    have ha := hact w1 (HD.out.below hb1) OK.out.a0 OK.out.a1 OK.out.f0 OK.out.f1
    clear hact hsz
    go_wp2_with fail
    refine ha.mono ?_
    rintro e w2 (⟨h, -⟩ | ⟨-, hfu, rfl, d2, m2⟩ | ⟨-, hfu, rfl, d2, m2⟩)
    · rw [hd] at h; cases h
    · clear ha
      have d1 := HD.out.below hb1
      have B2 := Nat.le_trans d2.geD (Nat.le_of_lt (d2.lt (.inl rfl)).2)
      have c2 : w2.cell? ⟨db, 1, none⟩ = some (.bool false) := hd ▸ cell_at d2.cells rfl
      have hfi := Lib.hid (file_any2 B db mb p.down (p.acts + 1) 0 p.keep fs nm w2 d2 hs B2 hfl)
      have D2 := Lib.hid d2
      have M2 := Lib.hid m2
      have hb2 := (HB.out.below hb1).mv m2 (fun g o e h0 c => HBF.out g o e h0 (HF.out _ (.inl c)))
      have HB2 := Lib.hid hb2
      have HB1 := Lib.hid hb1
      clear d1 d2 m2 hb2 hb1 B2
      go_wp2_with fail
      refine hfi.out.mono ?_
      rintro e w3 ⟨fs3, f, hf3, rfl, rfl, d3, m3, u3, i3, s3⟩
      have hb3 := HB2.out.mv m3 (fun g o e h0 c => HBF.out g o e h0 (HF.out _ (.inr (.inl c))))
      have hfl3 := file_len hf3
      rw [s3, HC.out] at hfl3
      have hul : f.u.length + n ≤ 1000000 := by have h2 : f.len = f.s.length + f.u.length := rfl; omega
      obtain ⟨A', n', c', w4, r4, z4, x4, d5, m5, i5⟩ := wait_any d3 hf3 hb3 hl hA hul
      have hcs := (d3.files f hf3).cells
      have x3 : w3.cell? ⟨f.g, 1, none⟩ = some f.wv := cell_at hcs rfl
      obtain ⟨A2, p2, e2, -⟩ := ob_shape (d3.files f hf3).waits rfl
      rw [e2] at x3 r4 x4
      have hcon : con (updF fs3 (f.longer (.slice A' n' c') b)) = updC f.nm (fun x => (x.1, x.2 ++ b)) p.cs := by
        rw [updC_con d3.names (f' := f.longer (.slice A' n' c') b) (h := fun x => (x.1, x.2 ++ b)) hf3 rfl rfl, u3, HC.out]
      have hmv : Mv F w (w4.setCell ⟨f.g, 1, none⟩ (.slice A' n' c')) := by
        refine (((Mv.of_below (fp := F) HB1.out).trans (fq := (· = db)) M2.out (fun i _ e => HF.out i (.inl e))).trans (fq := (· = mb)) m3 (fun i _ e => HF.out i (.inr (.inl e)))).trans (fq := f.fp) m5 (fun i hi hfi => ?_)
        rcases i3 i (.inr (.inr ⟨f, hf3, hfi⟩)) with h | h
        · exact HF.out i h
        · have := M2.out.size; have := HB1.out.size; omega
      have hin : ∀ i, dkFp db mb (updF fs3 (f.longer (.slice A' n' c') b)) i → orNew F w i := fun i hi => by
        have h1 := M2.out.size; have h2 := HB1.out.size; have h3 := m3.size
        rcases i5 i hi with h | h
        · rcases i3 i h with h | h
          · exact .inl (HF.out i h)
          · right; omega
        · right; omega
      have hks := sum_upd d3.names hf3 (f' := f.longer (.slice A' n' c') b) rfl
      have hks2 : sumF (updF fs3 (f.longer (.slice A' n' c') b)) ≤ 1000000 := by
        have e1 : (f.longer (.slice A' n' c') b).len = f.len + n := by show f.s.length + (f.u ++ b).length = f.s.length + f.u.length + n; rw [List.length_append, hl]; omega
        rw [e1, sumF_con fs3, s3, HC.out] at hks
        omega
      have x44 : w4.cell? ⟨db, 4, none⟩ = some (.int .i64 p.keep) := cell_past (cell_at d5.cells rfl) (fun e => d3.noD f hf3 (.inl e))
      have HK := Lib.hid hks2
      have D5 := Lib.hid d5
      have E := Lib.hid (And.intro hcon (And.intro hmv hin))
      clear hks hks2 d3 m3 u3 i3 s3 hb3 hfl3 hul d5 m5 i5 hcs e2 hcon hmv hin
      go_wp2_with fail
      have hoff := off_any B db mb (p.acts + 1) 0 p.keep _ _ (hd ▸ D5.out) HK.out p.keep
      refine hoff.mono ?_
      rintro e w6 ⟨rfl, fs6, d6, c6, m6, i6⟩
      go_wp2_with fail
      go_ret
      have e1 : appendP p f.nm b = ({ p with down := true, acts := p.acts + 1, fuse := 0, cs := (updC f.nm (fun x => (x.1, x.2 ++ b)) p.cs).map (offC p.keep) }, 21) := by
        unfold appendP
        rw [if_neg (by rw [hd]; decide), if_pos hfu]
        simp only [PD.lose, PD.tick, hd]
        rfl
      rw [e1]
      refine ⟨rfl, ⟨⟨mb, fs6, d6, by rw [c6, E.out.1], fun i hi => ?_⟩⟩, E.out.2.1.trans m6 (fun i hi h => ?_)⟩
      · rcases i6 i hi with h | h
        · exact E.out.2.2 i h
        · have := E.out.2.1.size; right; omega
      · rcases E.out.2.2 i h with h | h
        · exact h
        · omega
    · clear ha
      generalize hFU : (if 0 < p.fuse then p.fuse - 1 else p.fuse) = FU at d2
      have d1 := HD.out.below hb1
      have B2 := Nat.le_trans d2.geD (Nat.le_of_lt (d2.lt (.inl rfl)).2)
      have c2 : w2.cell? ⟨db, 1, none⟩ = some (.bool false) := hd ▸ cell_at d2.cells rfl
      have hfi := Lib.hid (file_any2 B db mb p.down (p.acts + 1) FU p.keep fs nm w2 d2 hs B2 hfl)
      have D2 := Lib.hid d2
      have M2 := Lib.hid m2
      have hb2 := (HB.out.below hb1).mv m2 (fun g o e h0 c => HBF.out g o e h0 (HF.out _ (.inl c)))
      have HB2 := Lib.hid hb2
      have HB1 := Lib.hid hb1
      clear d1 d2 m2 hb2 hb1 B2
      go_wp2_with fail
      refine hfi.out.mono ?_
      rintro e w3 ⟨fs3, f, hf3, rfl, rfl, d3, m3, u3, i3, s3⟩
      have hb3 := HB2.out.mv m3 (fun g o e h0 c => HBF.out g o e h0 (HF.out _ (.inr (.inl c))))
      have hfl3 := file_len hf3
      rw [s3, HC.out] at hfl3
      have hul : f.u.length + n ≤ 1000000 := by have h2 : f.len = f.s.length + f.u.length := rfl; omega
      obtain ⟨A', n', c', w4, r4, z4, x4, d5, m5, i5⟩ := wait_any d3 hf3 hb3 hl hA hul
      have hcs := (d3.files f hf3).cells
      have x3 : w3.cell? ⟨f.g, 1, none⟩ = some f.wv := cell_at hcs rfl
      obtain ⟨A2, p2, e2, -⟩ := ob_shape (d3.files f hf3).waits rfl
      rw [e2] at x3 r4 x4
      have hcon : con (updF fs3 (f.longer (.slice A' n' c') b)) = updC f.nm (fun x => (x.1, x.2 ++ b)) p.cs := by
        rw [updC_con d3.names (f' := f.longer (.slice A' n' c') b) (h := fun x => (x.1, x.2 ++ b)) hf3 rfl rfl, u3, HC.out]
      have hmv : Mv F w (w4.setCell ⟨f.g, 1, none⟩ (.slice A' n' c')) := by
        refine (((Mv.of_below (fp := F) HB1.out).trans (fq := (· = db)) M2.out (fun i _ e => HF.out i (.inl e))).trans (fq := (· = mb)) m3 (fun i _ e => HF.out i (.inr (.inl e)))).trans (fq := f.fp) m5 (fun i hi hfi => ?_)
        rcases i3 i (.inr (.inr ⟨f, hf3, hfi⟩)) with h | h
        · exact HF.out i h
        · have := M2.out.size; have := HB1.out.size; omega
      have hin : ∀ i, dkFp db mb (updF fs3 (f.longer (.slice A' n' c') b)) i → orNew F w i := fun i hi => by
        have h1 := M2.out.size; have h2 := HB1.out.size; have h3 := m3.size
        rcases i5 i hi with h | h
        · rcases i3 i h with h | h
          · exact .inl (HF.out i h)
          · right; omega
        · right; omega
      have hks := sum_upd d3.names hf3 (f' := f.longer (.slice A' n' c') b) rfl
      have hks2 : sumF (updF fs3 (f.longer (.slice A' n' c') b)) ≤ 1000000 := by
        have e1 : (f.longer (.slice A' n' c') b).len = f.len + n := by show f.s.length + (f.u ++ b).length = f.s.length + f.u.length + n; rw [List.length_append, hl]; omega
        rw [e1, sumF_con fs3, s3, HC.out] at hks
        omega
      have x44 : w4.cell? ⟨db, 4, none⟩ = some (.int .i64 p.keep) := cell_past (cell_at d5.cells rfl) (fun e => d3.noD f hf3 (.inl e))
      have HK := Lib.hid hks2
      have D5 := Lib.hid d5
      have E := Lib.hid (And.intro hcon (And.intro hmv hin))
      clear hks hks2 d3 m3 u3 i3 s3 hb3 hfl3 hul d5 m5 i5 hcs e2 hcon hmv hin
      go_wp2_with fail
      go_ret
      have e1 : appendP p f.nm b = ({ p with acts := p.acts + 1, fuse := FU, cs := updC f.nm (fun x => (x.1, x.2 ++ b)) p.cs }, 0) := by
        unfold appendP
        rw [if_neg (by rw [hd]; decide), if_neg hfu]
        simp only [PD.tick, hFU]
      rw [e1]
      exact ⟨rfl, ⟨⟨mb, _, D5.out, E.out.1, E.out.2.2⟩⟩, E.out.2.1⟩
end Go.Proofs.YtldicnhpccionaaDoor
