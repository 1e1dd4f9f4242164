/-
How many bytes a disk's files have.
-/
import Derived.Test.YtldicnhpccionaaDoorDisk
namespace Go.Proofs.YtldicnhpccionaaDoor
open Go.RowKit
set_option linter.unusedVariables false
set_option linter.unusedSimpArgs false

def FileS.len (f : FileS) : Nat := f.s.length + f.u.length
def sumL (left : Lit → Bool) : List FileS → Nat
  | [] => 0
  | f :: r => (if left (keyL f.nm) then 0 else f.len) + sumL left r
def sumF (fs : List FileS) : Nat := sumL (fun _ => false) fs
theorem sumL_all {left : Lit → Bool} : ∀ {fs : List FileS}, (∀ f ∈ fs, left (keyL f.nm) = true) → sumL left fs = 0
  | [], _ => rfl
  | f :: r, h => by simp [sumL, h f (by simp), sumL_all (fs := r) (fun g hg => h g (by simp [hg]))]
theorem sumL_none {left : Lit → Bool} (h : ∀ k, left k = false) : ∀ fs : List FileS, sumL left fs = sumF fs
  | [] => rfl
  | f :: r => by simp [sumL, sumF, h, sumL_none h r]
theorem sumL_le (left : Lit → Bool) : ∀ fs : List FileS, sumL left fs ≤ sumF fs
  | [] => Nat.le_refl _
  | f :: r => by have := sumL_le left r; simp only [sumF, sumL] at this ⊢; split <;> simp <;> omega
theorem sumL_same {left left' : Lit → Bool} : ∀ {fs : List FileS}, (∀ f ∈ fs, left (keyL f.nm) = left' (keyL f.nm)) → sumL left fs = sumL left' fs
  | [], _ => rfl
  | f :: r, h => by simp only [sumL, h f (by simp), sumL_same (fs := r) (fun g hg => h g (by simp [hg]))]
theorem sumL_step {left : Lit → Bool} {f : FileS} : ∀ {fs : List FileS}, (fs.Pairwise fun f f' => f.nm ≠ f'.nm) → f ∈ fs → left (keyL f.nm) = true → sumL (fun z => left z && !z.sameKey (keyL f.nm)) fs = sumL left fs + f.len
  | [], _, hf, _ => by cases hf
  | g :: r, hp, hf, hl => by
    rw [List.pairwise_cons] at hp
    have ne : ∀ {a b : ByteArray}, a ≠ b → (keyL a).sameKey (keyL b) = false := fun h => Maps.sameKey_ne (fun e => h (keyL_inj e))
    rcases Classical.em (f.nm = g.nm) with e | e
    · have hfg : f = g := by
        rcases List.mem_cons.1 hf with h | h
        · exact h
        · exact absurd e.symm (hp.1 f h)
      subst hfg
      have h2 : sumL (fun z => left z && !z.sameKey (keyL f.nm)) r = sumL left r := sumL_same (fun h hh => by rw [ne (fun c => hp.1 h hh c.symm)]; simp)
      simp only [sumL]
      rw [h2]
      simp [hl, WideAt.sameKey_self (keyL_key f.nm)]; omega
    · have hf2 : f ∈ r := by
        rcases List.mem_cons.1 hf with h | h
        · exact absurd (by rw [h]) e
        · exact h
      have h2 := sumL_step hp.2 hf2 hl
      simp only [sumL]
      rw [h2]
      simp [ne (a := g.nm) (b := f.nm) (fun c => e c.symm)]
      omega
set_option maxRecDepth 100000 in
theorem size_any (B db mb : Nat) (down : Bool) (acts fuse keep : Int) (fs : List FileS) (w : World) (h : Dk B db mb down acts fuse keep fs w) (hs : sumF fs ≤ 1000000) :
    Calls Tryd.prog 35 #[.pointer (some ⟨db, 0, none⟩)] w fun e w' => e = .returned (.int .i64 (sumF fs : Nat)) ∧ Below w.heap.size w w' := by
  have H := Lib.hid h
  have HS := Lib.hid hs
  have c0 : w.cell? ⟨db, 0, none⟩ = some (.map (some mb)) := cell_at h.cells rfl
  obtain ⟨D, hown, hR⟩ := h.map
  have HR := Lib.hid hR
  have hmb := hown.lt
  clear h hs hR
  go_enter Tryd.func35, Tryd.ntmps35
  go_wp2_with (first
    | (at_range; refine wpList_range_own _ rfl _ 69 rfl 9 72 mapLaw Tryd.underlying69 ptrE mb fs.length D rfl hown ?_; intro w0 hrg0 hg0 hs0)
    | go_in)
  go_frame
  have hb0 : Below w.heap.size w w0 := ⟨hg0.os, hg0.tape, hg0.output, hg0.size, fun k hk => hg0.block k hk (by simp)⟩
  go_loopw [3] (fun t wr => ∃ (left : Lit → Bool) (cnt : Nat), t = .int .i64 (sumL left fs : Nat) ∧ wr.ranges Tryd.prog 9 ptrE mb w.heap.size fs.length D left cnt ∧ Below w.heap.size w wr ∧ (∀ kl, left kl = true → Maps.has D kl = true)) (fun _ wr => wr.rangeLeft mb w.heap.size)
  case atStart =>
    refine ⟨_, _, ?_, hrg0, hb0, fun _ c => c⟩
    rw [sumL_all (fun f hf => HR.out.in hf)]; rfl
  case round =>
    obtain ⟨left, cnt, rfl, hrg, hbw, hleft⟩ := hrel
    have HL := Lib.hid hleft
    have HBW := Lib.hid hbw
    clear hleft hbw
    go_wp2_with (first
      | (at_next; refine wpList_next_ranges _ rfl _ rfl 9 mapLaw ptrE id id (fun key _ _ => ⟨key, rfl⟩) (fun v _ _ => ⟨v, rfl⟩) mb w.heap.size fs.length D _ _ rfl hrg ?_ ?_)
      | go_in)
    · intro hc0 hl0
      go_wp2
      go_ret
      exact ⟨by rw [sumL_none hl0]; rfl, HBW.out⟩
    · intro x c kl yd yp w1 cnt1 hkey hlx hv hat hrg1 hlt hg1 hs1 hen
      have hb1 : Below w.heap.size wr w1 := ⟨hg1.os, hg1.tape, hg1.output, hg1.size, fun k hk => hg1.block k (by have := HBW.out.size; omega) (fun e => by have := Option.some.inj e; omega)⟩
      obtain ⟨f, hf, rfl⟩ := HR.out.has kl (HL.out kl hlx)
      have hyf := (hat (blockL 0)).symm.trans (HR.out.at' f hf _)
      have hvf : c = .pointer (some ⟨f.g, 0, none⟩) := by
        refine ptrE_some (ps := yp) (hv.trans ?_)
        rw [← hyf]
      subst hvf
      have hbt := HBW.out.trans hb1
      have dk1 := H.out.below hbt
      have hcs := (dk1.files f hf).cells
      have cs : w1.cell? ⟨f.g, 0, none⟩ = some f.sv := cell_at hcs rfl
      have cw : w1.cell? ⟨f.g, 1, none⟩ = some f.wv := cell_at hcs rfl
      obtain ⟨A1, p1, e1, -⟩ := ob_shape (dk1.files f hf).safe rfl
      obtain ⟨A2, p2, e2, -⟩ := ob_shape (dk1.files f hf).waits rfl
      have hst := sumL_step H.out.names hf hlx
      have hle := sumL_le (fun z => left z && !z.sameKey (keyL f.nm)) fs
      have hfl : f.len = f.s.length + f.u.length := rfl
      have hsum := HS.out
      clear hat hv hkey hyf hcs dk1 hg1 hs1 hb1
      rw [e1] at cs
      rw [e2] at cw
      go_wp2
      go_region
      have hrg2 : (w1.drew).ranges Tryd.prog 9 ptrE mb w.heap.size fs.length D (fun z => left z && !z.sameKey (keyL f.nm)) cnt1 := hrg1
      go_roundw
      case rel =>
        refine ⟨_, _, _, _, _, _, _, _, _, _, _, _, _, _, _, _, _, _, _, ⟨fun z => left z && !z.sameKey (keyL f.nm), cnt1, ?_, hrg2, hbt.drew, fun k hk => HL.out k (Bool.and_eq_true_iff.1 hk).1⟩, rfl⟩
        rw [hst, hfl]
        congr 1
      case measure => rw [hrg2.left_eq, hrg.left_eq]; exact hlt
end Go.Proofs.YtldicnhpccionaaDoor
