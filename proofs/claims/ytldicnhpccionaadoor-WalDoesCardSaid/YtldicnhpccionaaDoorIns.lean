/-
Install of a disk's file; New; Acts.
-/
import Derived.Test.YtldicnhpccionaaDoorSyn
namespace Go.Proofs.YtldicnhpccionaaDoor
open Go.RowKit
set_option linter.unusedVariables false
set_option linter.unusedSimpArgs false
@[go_sem ↓] theorem ap_B_ins (ty : TypeId) (args : Array Value) : Builtin.append_ #[25, 25] ty args = apRow #[25, 25] ty args := rfl
def instF (nm : ByteArray) (g : Nat) (v : Value) (b : List UInt8) : FileS := ⟨nm, g, v, .slice none 0 0, b, []⟩
/-- a file's bytes are laid anew -/
theorem inst_any {B db mb : Nat} {down : Bool} {acts fuse keep : Int} {fs : List FileS} {w : World} (d : Dk B db mb down acts fuse keep fs w) (nm : ByteArray) (hs : nm.size ≤ 1000000) (hn : fs.length ≤ 1000000) {A : Option Addr} {n cap : Nat} {b : List UInt8} (hb : BL w A b) (hl : b.length = n) (hA : A = none → cap = 0 ∧ b = []) (hsz : n ≤ 1000000) :
    ∃ A' n' c' w2 w4, (apRow #[25, 25] 25 #[.slice (some ⟨w.heap.size, 0, none⟩) 0 0, .slice A n cap]).run Tryd.prog (w.alloc (.cells #[] 5)).drew = .ok (.slice A' n' c') w2 ∧
      (Instr.mapUpdate 69 (.map (some mb)) (.string nm) (.pointer (some ⟨w2.heap.size, 0, none⟩))).run Tryd.prog (w2.alloc (.cells #[.slice A' n' c', .slice none 0 0] 75)) = .ok () w4 ∧ w2.cell? ⟨db, 0, none⟩ = some (.map (some mb)) ∧ (w2.alloc (.cells #[.slice A' n' c', .slice none 0 0] 75)).cell? ⟨db, 0, none⟩ = some (.map (some mb)) ∧
      ∃ fs', Dk B db mb down acts fuse keep fs' w4 ∧ con fs' = updC nm (fun _ => (b, [])) (con fs) ∧ Mv (· = mb) w w4 ∧ (∀ i, dkFp db mb fs' i → dkFp db mb fs i ∨ w.heap.size ≤ i) := by
  have b1 : Below w.heap.size w (w.alloc (.cells #[] 5)).drew := (alloc_below w (.cells #[] 5)).drew
  have d1 := d.below b1
  have hB1 := Nat.le_trans d.B b1.size
  have hs1 : (w.alloc (.cells #[] 5)).drew.heap.size = w.heap.size + 1 := by simp
  have o1 : OB (w.alloc (.cells #[] 5)).drew B (.slice (some ⟨w.heap.size, 0, none⟩) 0 0) [] := World.ownsRow_made w #[] 0 d.B (by decide) rfl
  obtain ⟨v', w2, r2, o2, g2, e2⟩ := ob_any cap 25 o1 (hb.below b1) hl hA (by simp only [List.length_nil]; omega) hB1
  rw [List.nil_append] at o2
  obtain ⟨A', c', rfl, -⟩ := ob_shape o2 rfl
  have hgv : ∀ k, (Value.slice A' b.length c').ownBlock = some k → w.heap.size ≤ k ∧ k < w2.heap.size := fun k hk => by
    refine ⟨?_, (ob_lt o2 hk).2⟩
    rcases e2 with e | e
    · rw [e] at hk; simp [Value.ownBlock] at hk; omega
    · rw [e] at hk; have := Option.some.inj hk; omega
  have b2 : Below w.heap.size w w2 := b1.grown g2 (by simp) (fun k hk => by simp [Value.ownBlock] at hk; omega)
  have d2 := d.below b2
  have b3 := alloc_below w2 (.cells #[.slice A' b.length c', .slice none 0 0] 75)
  have d3 := d2.below b3
  have f3 : (instF nm w2.heap.size (.slice A' b.length c') b).ok B (w2.alloc (.cells #[.slice A' b.length c', .slice none 0 0] 75)) := by
    refine ⟨(MapKept.heap_alloc w2 _).1, Nat.le_trans d.B b2.size, World.ownsRow.alloc o2 _, ob_nil _ _, fun c => ?_, by simp [instF, Value.ownBlock], by simp [instF, Value.ownBlock]⟩
    have := (hgv _ c).2
    simp only [instF] at this
    omega
  have hnew : ∀ i, (instF nm w2.heap.size (.slice A' b.length c') b).fp i → w.heap.size ≤ i := fun i hi => by
    rcases hi with hi | hi | hi
    · rw [hi]; exact b2.size
    · exact (hgv i hi).1
    · simp [instF, Value.ownBlock] at hi
  have hno : ∀ i, (instF nm w2.heap.size (.slice A' b.length c') b).fp i → ¬ dkFp db mb fs i := fun i hi c => by have := hnew i hi; have := (d.lt c).2; omega
  have hmb := (d.lt (.inr (.inl rfl))).2
  have b23 := b2.trans (b3.mono b2.size)
  rcases Classical.em (∃ f ∈ fs, f.nm = nm) with ⟨f, hf, hnm⟩ | hne
  · obtain ⟨w4, r4, o4, g4⟩ := d3.map.store_in (instF nm w2.heap.size (.slice A' b.length c') b) hf hnm hs hn
    have m4 : Mv (· = mb) _ w4 := Mv.of_grown g4 (fun k hk => (Option.some.inj hk).symm)
    have d4 := d3.put _ m4 o4 (f3.mv m4 (fun i hi e => by have := hnew i hi; omega)) hno
    refine ⟨A', _, c', w2, w4, r2, r4, cell_at d2.cells rfl, cell_at d3.cells rfl, _, d4, ?_, (Mv.of_below b23).trans (fq := (· = mb)) m4 (fun _ _ c => c), fun i hi => ?_⟩
    · have hu := updC_con (f' := instF nm w2.heap.size (.slice A' b.length c') b) (h := fun _ => (b, [])) d.names hf hnm rfl
      rw [hnm] at hu
      exact hu
    · rcases hi with hi | hi | ⟨f2, hf2, hi⟩
      · exact .inl (.inl hi)
      · exact .inl (.inr (.inl hi))
      · rcases mem_updF hf2 with rfl | ⟨hf3, -⟩
        · exact .inr (hnew i hi)
        · exact .inl (.inr (.inr ⟨f2, hf3, hi⟩))
  · have hno' : ∀ f ∈ fs, f.nm ≠ nm := fun f hf c => hne ⟨f, hf, c⟩
    obtain ⟨w4, r4, o4, g4⟩ := d3.map.store_add (instF nm w2.heap.size (.slice A' b.length c') b) hno' hs hn
    have m4 : Mv (· = mb) _ w4 := Mv.of_grown g4 (fun k hk => (Option.some.inj hk).symm)
    have d4 := d3.add _ hno' m4 o4 (f3.mv m4 (fun i hi e => by have := hnew i hi; omega)) hno
    refine ⟨A', _, c', w2, w4, r2, r4, cell_at d2.cells rfl, cell_at d3.cells rfl, _, d4, ?_, (Mv.of_below b23).trans (fq := (· = mb)) m4 (fun _ _ c => c), fun i hi => ?_⟩
    · rw [con_add]
      unfold updC
      rw [if_neg (fun c => by rw [hasNm_iff, con_names] at c; obtain ⟨f, hf, e⟩ := List.mem_map.1 c; exact hno' f hf e)]
      rfl
    · rcases hi with hi | hi | ⟨f2, hf2, hi⟩
      · exact .inl (.inl hi)
      · exact .inl (.inr (.inl hi))
      · rcases List.mem_append.1 hf2 with hf2 | hf2
        · exact .inl (.inr (.inr ⟨f2, hf2, hi⟩))
        · rw [List.mem_singleton] at hf2; subst hf2
          exact .inr (hnew i hi)
set_option maxRecDepth 100000 in
set_option maxHeartbeats 1000000 in
theorem install_any {B db : Nat} {F : Nat → Prop} {p : PD} (nm : ByteArray) (A : Option Addr) (n cap : Nat) (b : List UInt8) (w : World) (h : DkS B db F p w) (ok : p.ok) (hs : nm.size ≤ 1000000) (hb : BL w A b) (hl : b.length = n) (hA : A = none → cap = 0 ∧ b = [])
    (hbF : ∀ g o, A = some ⟨g, o, none⟩ → 0 < b.length → ¬ F g) (hf : sumC p.cs + n ≤ 1000000) :
    Calls Tryd.prog 39 #[.pointer (some ⟨db, 0, none⟩), .string nm, .slice A n cap] w (DkEnd B db F (installP p nm b).1 (.int .i64 (installP p nm b).2) w) := by
  have hS := Lib.hid h
  obtain ⟨mb, fs, d, c, hF⟩ := h.ex
  have HD := Lib.hid d
  have HC := Lib.hid c
  have HF := Lib.hid hF
  have HB := Lib.hid hb
  have HBF := Lib.hid hbF
  have hact := act_any B db mb p.down p.acts p.fuse p.keep fs
  have c1 : w.cell? ⟨db, 1, none⟩ = some (.bool p.down) := cell_at d.cells rfl
  have OK := Lib.hid ok
  clear d c hF hb hbF h ok
  go_enter Tryd.func39, Tryd.ntmps39
  cases hd : p.down with
  | true =>
    rw [hd] at c1
    have ha := hact w HD.out OK.out.a0 OK.out.a1 OK.out.f0 OK.out.f1
    clear hact
    go_wp2_with fail
    refine ha.mono ?_
    rintro e w1 (⟨-, rfl, rfl⟩ | ⟨h, -⟩ | ⟨h, -⟩)
    · go_wp2_with fail
      go_ret
      have e1 : installP p nm b = (p, 21) := by unfold installP; rw [if_pos hd]
      rw [e1]
      exact ⟨rfl, hS.out.mono (fun i _ h => .inl h), Mv.refl _ _⟩
    · rw [hd] at h; cases h
    · rw [hd] at h; cases h
  | false =>
    rw [hd] at c1
    have hsz := size_any B db mb p.down p.acts p.fuse p.keep fs w HD.out (by rw [sumF_con, HC.out]; exact OK.out.sum)
    go_wp2_with fail
    generalize hS' : sumF fs = S at hsz
    have hSi : ((S : Nat) : Int) + n ≤ 1000000 := by rw [← hS', sumF_con, HC.out]; omega
    have hSn : ¬ (4194304 : Int) < S + n := by omega
    have hfl : fs.length ≤ 1000000 := by rw [len_con, HC.out]; exact OK.out.len
    refine hsz.mono ?_
    rintro e w1 ⟨rfl, hb1⟩
    have ha := hact w1 (HD.out.below hb1) OK.out.a0 OK.out.a1 OK.out.f0 OK.out.f1
    clear hact hsz
    go_wp2_with fail
    refine ha.mono ?_
    rintro e w2 (⟨h, -⟩ | ⟨-, hfu, rfl, d2, m2⟩ | ⟨-, hfu, rfl, d2, m2⟩)
    · rw [hd] at h; cases h
    · have c2 : w2.cell? ⟨db, 1, none⟩ = some (.bool false) := hd ▸ cell_at d2.cells rfl
      have x44 : w2.cell? ⟨db, 4, none⟩ = some (.int .i64 p.keep) := cell_at d2.cells rfl
      have hoff := Lib.hid (off_any B db mb (p.acts + 1) 0 p.keep fs w2 (hd ▸ d2) (by rw [sumF_con, HC.out]; exact OK.out.sum) p.keep)
      have M2 := Lib.hid ((Mv.of_below (fp := F) hb1).trans (fq := (· = db)) m2 (fun i _ e => HF.out i (.inl e)))
      clear ha d2 m2 hb1
      go_wp2_with fail
      refine hoff.out.mono ?_
      rintro e w6 ⟨rfl, fs6, d6, c6, m6, i6⟩
      go_wp2_with fail
      go_ret
      have e1 : installP p nm b = ({ p with down := true, acts := p.acts + 1, fuse := 0, cs := p.cs.map (offC p.keep) }, 21) := by
        unfold installP
        rw [if_neg (by rw [hd]; decide), if_pos hfu]
        simp only [PD.lose, PD.tick, hd]
        rfl
      rw [e1]
      refine ⟨rfl, ⟨⟨mb, fs6, d6, by rw [c6, HC.out], fun i hi => ?_⟩⟩, (M2.out.trans m6 (fun i hi h => HF.out i h))⟩
      rcases i6 i hi with h | h
      · exact .inl (HF.out i h)
      · have := M2.out.size; right; omega
    · generalize hFU : (if 0 < p.fuse then p.fuse - 1 else p.fuse) = FU at d2
      have hb2 := (HB.out.below hb1).mv m2 (fun g o e h0 c => HBF.out g o e h0 (HF.out _ (.inl c)))
      obtain ⟨A', n', c', w3, w4, r3, r4, y3, y4, fs', d4, k4, m4, i4⟩ := inst_any d2 nm hs hfl hb2 hl hA (by omega)
      have c2 : w2.cell? ⟨db, 1, none⟩ = some (.bool false) := hd ▸ cell_at d2.cells rfl
      have y2 : w2.cell? ⟨db, 0, none⟩ = some (.map (some mb)) := cell_at d2.cells rfl
      have y2' : (w2.alloc (.cells #[] 5)).drew.cell? ⟨db, 0, none⟩ = some (.map (some mb)) := cell_at (d2.below (alloc_below w2 (.cells #[] 5)).drew).cells rfl
      have hM : Mv F w w4 := ((Mv.of_below (fp := F) hb1).trans (fq := (· = db)) m2 (fun i _ e => HF.out i (.inl e))).trans (fq := (· = mb)) m4 (fun i _ e => HF.out i (.inr (.inl e)))
      have hin : ∀ i, dkFp db mb fs' i → orNew F w i := fun i hi => by
        rcases i4 i hi with h | h
        · exact .inl (HF.out i h)
        · have h1 := m2.size; have h2 := hb1.size; right; omega
      rw [HC.out] at k4
      have E := Lib.hid (And.intro d4 (And.intro k4 (And.intro hM hin)))
      clear ha d2 m2 hb1 hb2 d4 k4 m4 i4 hM hin
      go_wp2_with fail
      go_region
      go_wp2_with fail
      go_ret
      have e1 : installP p nm b = ({ p with acts := p.acts + 1, fuse := FU, cs := updC nm (fun _ => (b, [])) p.cs }, 0) := by
        unfold installP
        rw [if_neg (by rw [hd]; decide), if_neg hfu]
        simp only [PD.tick, hFU]
      rw [e1]
      exact ⟨rfl, ⟨⟨mb, fs', E.out.1, E.out.2.1, E.out.2.2.2⟩⟩, E.out.2.2.1⟩
/-- a new disk -/
def newP : PD := ⟨false, 0, 0, 0, []⟩
theorem newP_ok : newP.ok := ⟨by decide, by decide, by decide, by decide, by decide, by decide⟩
set_option maxRecDepth 100000 in
theorem new_any (w : World) : Calls Tryd.prog 13 #[] w fun e w' => ∃ db, e = .returned (.pointer (some ⟨db, 0, none⟩)) ∧ w.heap.size ≤ db ∧ DkS w.heap.size db (fun i => w.heap.size ≤ i) newP w' ∧ Below w.heap.size w w' := by
  have hmm := @run_makeMap Tryd.prog
  go_enter Tryd.func13, Tryd.ntmps13
  go_wp2_with fail
  go_ret
  have b1 := alloc_below w (.map #[] 0)
  have b2 := b1.alloc (by simp) (.cells #[.map (some w.heap.size), .bool false, .int .i64 0, .int .i64 0, .int .i64 0] 71)
  refine ⟨_, rfl, by omega, ⟨⟨w.heap.size, [], ?_, rfl, fun i hi => ?_⟩⟩, b2⟩
  · have hm : OwnF (w.alloc (.map #[] 0)) w.heap.size [] := ⟨_, World.ownsMap_made _ _ _ _, reads_nil⟩
    refine ⟨?_, by omega, Nat.le_refl _, ?_, fun f hf => (by cases hf), List.Pairwise.nil, List.Pairwise.nil, fun f hf => (by cases hf), fun f hf => (by cases hf), by omega⟩
    · have := heap_alloc_new (w.alloc (.map #[] 0)) (.cells #[.map (some w.heap.size), .bool false, .int .i64 0, .int .i64 0, .int .i64 0] 71)
      rw [show (w.alloc (.map #[] 0)).heap.size = w.heap.size + 1 by simp] at this
      exact this
    · exact hm.mv (Mv.of_below (fp := fun _ => False) (alloc_below _ _)) (fun c => c)
  · rcases hi with rfl | rfl | ⟨f, hf, -⟩
    · show w.heap.size ≤ w.heap.size + 1; omega
    · exact Nat.le_refl _
    · cases hf
set_option maxRecDepth 100000 in
theorem acts_any {B db : Nat} {F : Nat → Prop} {p : PD} (w : World) (h : DkS B db F p w) :
    Calls Tryd.prog 32 #[.pointer (some ⟨db, 0, none⟩)] w fun e w' => e = .returned (.int .i64 p.acts) ∧ w' = w := by
  obtain ⟨mb, fs, d, c, hF⟩ := h.ex
  have c2 : w.cell? ⟨db, 2, none⟩ = some (.int .i64 p.acts) := cell_at d.cells rfl
  clear d c hF h
  go_enter Tryd.func32, Tryd.ntmps32
  go_wp2_with fail
  go_ret
  exact ⟨rfl, rfl⟩

end Go.Proofs.YtldicnhpccionaaDoor
