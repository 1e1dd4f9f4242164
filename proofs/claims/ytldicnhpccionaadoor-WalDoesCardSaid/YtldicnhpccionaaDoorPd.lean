/-
A disk, said of contents.
-/
import Derived.Test.YtldicnhpccionaaDoorOff
namespace Go.Proofs.YtldicnhpccionaaDoor
open Go.RowKit
set_option linter.unusedVariables false
set_option linter.unusedSimpArgs false
/-- a disk's state: whether the power is off, its counters, its files' contents -/
structure PD where
  down : Bool
  acts : Int
  fuse : Int
  keep : Int
  cs : Con
def sumC (cs : Con) : Nat := (cs.map fun x => x.2.1.length + x.2.2.length).sum
theorem sumF_con (fs : List FileS) : sumF fs = sumC (con fs) := by
  induction fs with
  | nil => rfl
  | cons f r ih =>
    simp only [sumF, sumL] at ih ⊢
    rw [ih]
    simp [con, sumC, FileS.len]
def hasNm (nm : ByteArray) (cs : Con) : Bool := cs.any fun x => decide (x.1 = nm)
theorem hasNm_iff {nm : ByteArray} {cs : Con} : hasNm nm cs = true ↔ nm ∈ cs.map (·.1) := by
  unfold hasNm
  rw [List.any_eq_true, List.mem_map]
  simp only [decide_eq_true_eq]
/-- what becomes of the file of a name -/
def updC (nm : ByteArray) (h : List UInt8 × List UInt8 → List UInt8 × List UInt8) (cs : Con) : Con :=
  if hasNm nm cs then cs.map (fun x => if x.1 = nm then (x.1, h x.2) else x) else cs ++ [(nm, h ([], []))]
structure PD.ok (p : PD) : Prop where
  a0 : 0 ≤ p.acts
  a1 : p.acts ≤ 1000000
  f0 : 0 ≤ p.fuse
  f1 : p.fuse ≤ 9223372036854775807
  sum : sumC p.cs ≤ 1000000
  len : p.cs.length ≤ 1000000
/-- the disk lies in these blocks -/
structure DkS (B db : Nat) (F : Nat → Prop) (p : PD) (w : World) : Prop where
  ex : ∃ mb fs, Dk B db mb p.down p.acts p.fuse p.keep fs w ∧ con fs = p.cs ∧ ∀ i, dkFp db mb fs i → F i
def orNew (F : Nat → Prop) (w : World) (i : Nat) : Prop := F i ∨ w.heap.size ≤ i
theorem DkS.mv {B db : Nat} {F : Nat → Prop} {p : PD} {w w' : World} {fp : Nat → Prop} (h : DkS B db F p w) (m : Mv fp w w') (hf : ∀ i, F i → ¬ fp i) : DkS B db F p w' := by
  obtain ⟨mb, fs, d, c, hF⟩ := h.ex
  exact ⟨⟨mb, fs, d.mv m (fun i hi => hf i (hF i hi)), c, hF⟩⟩
theorem DkS.below {B db : Nat} {F : Nat → Prop} {p : PD} {w w' : World} (h : DkS B db F p w) (hb : Below w.heap.size w w') : DkS B db F p w' :=
  h.mv (Mv.of_below (fp := fun _ => False) hb) (fun _ _ c => c)
theorem DkS.mono {B db : Nat} {F F' : Nat → Prop} {p : PD} {w : World} (h : DkS B db F p w) (hf : ∀ i, i < w.heap.size → F i → F' i) : DkS B db F' p w := by
  obtain ⟨mb, fs, d, c, hF⟩ := h.ex
  exact ⟨⟨mb, fs, d, c, fun i hi => hf i (d.lt hi).2 (hF i hi)⟩⟩
/-- what an operation leaves -/
def DkEnd (B db : Nat) (F : Nat → Prop) (p' : PD) (v : Value) (w : World) (e : Ending) (w' : World) : Prop :=
  e = .returned v ∧ DkS B db (orNew F w) p' w' ∧ Mv F w w'
def PD.tick (p : PD) : PD := { p with acts := p.acts + 1, fuse := if 0 < p.fuse then p.fuse - 1 else p.fuse }
def PD.lose (p : PD) (k : Int) : PD := if p.down then p else { p with down := true, fuse := 0, cs := p.cs.map (offC k) }
/-- an act that isn't full: what becomes of the file, and whether it becomes so where the power goes -/
def appendP (p : PD) (nm : ByteArray) (b : List UInt8) : PD × Int :=
  if p.down then (p, 21) else
    let q : PD := { p.tick with cs := updC nm (fun x => (x.1, x.2 ++ b)) p.cs }
    if p.fuse = 1 then (q.lose q.keep, 21) else (q, 0)
def syncP (p : PD) (nm : ByteArray) : PD × Int :=
  if p.down then (p, 21) else if p.fuse = 1 then (p.tick.lose p.keep, 21) else ({ p.tick with cs := updC nm (fun x => (x.1 ++ x.2, [])) p.cs }, 0)
def installP (p : PD) (nm : ByteArray) (b : List UInt8) : PD × Int :=
  if p.down then (p, 21) else if p.fuse = 1 then (p.tick.lose p.keep, 21) else ({ p.tick with cs := updC nm (fun _ => (b, [])) p.cs }, 0)
theorem con_names {fs : List FileS} : (con fs).map (·.1) = fs.map (·.nm) := by unfold con; rw [List.map_map]; rfl
theorem updC_con {fs : List FileS} (hn : fs.Pairwise fun f f' => f.nm ≠ f'.nm) {f f' : FileS} (hf : f ∈ fs) (hnm : f.nm = f'.nm) {h : List UInt8 × List UInt8 → List UInt8 × List UInt8} (hh : h (f.s, f.u) = (f'.s, f'.u)) :
    con (updF fs f') = updC f.nm h (con fs) := by
  unfold updC
  rw [if_pos (by rw [hasNm_iff, con_names]; exact List.mem_map.2 ⟨f, hf, rfl⟩), con_upd, hnm]
  refine List.map_congr_left fun x hx => ?_
  split
  · rename_i e
    obtain ⟨f2, hf2, e2⟩ := List.mem_map.1 hx
    obtain rfl : f2 = f := same_of_nm hn hf2 hf (by rw [hnm, ← e, ← e2])
    rw [← e2]
    show _ = (f2.nm, h (f2.s, f2.u))
    rw [hh, hnm]
  · rfl
theorem updC_new {cs : Con} {nm : ByteArray} {h : List UInt8 × List UInt8 → List UInt8 × List UInt8} (hn : nm ∉ cs.map (·.1)) : updC nm h (cs ++ [(nm, ([], []))]) = updC nm h cs := by
  unfold updC
  rw [if_neg (fun c => hn (hasNm_iff.1 c)), if_pos (hasNm_iff.2 (by simp)), List.map_append]
  congr 1
  · refine (List.map_congr_left fun x hx => ?_).trans (List.map_id' cs)
    exact if_neg (fun e => hn (List.mem_map.2 ⟨x, hx, e⟩))
  · simp
/-- the file of a name, there already or new -/
def FileEnd2 (B db mb : Nat) (down : Bool) (acts fuse keep : Int) (fs : List FileS) (nm : ByteArray) (w : World) (e : Ending) (w' : World) : Prop :=
  ∃ fs2 f, f ∈ fs2 ∧ f.nm = nm ∧ e = .returned (.pointer (some ⟨f.g, 0, none⟩)) ∧ Dk B db mb down acts fuse keep fs2 w' ∧ Mv (· = mb) w w' ∧ (∀ h, updC nm h (con fs2) = updC nm h (con fs)) ∧ (∀ i, dkFp db mb fs2 i → dkFp db mb fs i ∨ w.heap.size ≤ i) ∧ sumC (con fs2) = sumC (con fs)
theorem file_any2 (B db mb : Nat) (down : Bool) (acts fuse keep : Int) (fs : List FileS) (nm : ByteArray) (w : World) (h : Dk B db mb down acts fuse keep fs w) (hs : nm.size ≤ 1000000) (hB : B ≤ w.heap.size) (hn : fs.length ≤ 1000000) :
    Calls Tryd.prog 37 #[.pointer (some ⟨db, 0, none⟩), .string nm] w (FileEnd2 B db mb down acts fuse keep fs nm w) := by
  refine (file_any B db mb down acts fuse keep fs nm w h hs hB hn).mono ?_
  rintro e w' (⟨f, hf, hnm, he, rfl⟩ | ⟨hno, g, hg, he, d, m⟩)
  · exact ⟨fs, f, hf, hnm, he, h, Mv.refl _ _, fun _ => rfl, fun i hi => .inl hi, rfl⟩
  · refine ⟨_, newF nm g, by simp, rfl, he, d, m, fun h => ?_, fun i hi => ?_, ?_⟩
    · rw [con_add]
      exact updC_new (by rw [con_names]; intro c; obtain ⟨f, hf, e⟩ := List.mem_map.1 c; exact hno f hf e)
    · rcases hi with hi | hi | ⟨f, hf, hi⟩
      · exact .inl (.inl hi)
      · exact .inl (.inr (.inl hi))
      · rcases List.mem_append.1 hf with hf | hf
        · exact .inl (.inr (.inr ⟨f, hf, hi⟩))
        · rw [List.mem_singleton] at hf; subst hf
          right; rw [newF_fp hi]; exact hg
    · rw [con_add]; simp [sumC, newF]
end Go.Proofs.YtldicnhpccionaaDoor
