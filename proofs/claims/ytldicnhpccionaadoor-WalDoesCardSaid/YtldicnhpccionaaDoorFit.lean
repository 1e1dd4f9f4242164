/-
How much a disk holds, behind the operations.
-/
import Derived.Test.YtldicnhpccionaaDoorLst
namespace Go.Proofs.YtldicnhpccionaaDoor
open Go.RowKit
set_option linter.unusedVariables false
set_option linter.unusedSimpArgs false
def lenP (x : List UInt8 × List UInt8) : Nat := x.1.length + x.2.length
theorem DkS.nd {B db : Nat} {F : Nat → Prop} {p : PD} {w : World} (h : DkS B db F p w) : p.cs.Pairwise fun x y => x.1 ≠ y.1 := by
  obtain ⟨mb, fs, d, c, hF⟩ := h.ex
  rw [← c]
  unfold con
  rw [List.pairwise_map]
  exact d.names
theorem sumC_cons (x : ByteArray × List UInt8 × List UInt8) (cs : Con) : sumC (x :: cs) = lenP x.2 + sumC cs := by simp [sumC, lenP]
theorem sumC_app (cs ds : Con) : sumC (cs ++ ds) = sumC cs + sumC ds := by simp [sumC]
theorem sumC_le_of_get {nm : ByteArray} {cs : Con} {x : List UInt8 × List UInt8} (h : getC nm cs = some x) : lenP x ≤ sumC cs := by
  have hm := getC_mem h
  clear h
  induction cs with
  | nil => cases hm
  | cons y r ih =>
    rw [sumC_cons]
    rcases List.mem_cons.1 hm with rfl | hm
    · exact Nat.le_add_right _ _
    · have := ih hm; omega
theorem sum_updC {nm : ByteArray} {h : List UInt8 × List UInt8 → List UInt8 × List UInt8} {cs : Con} (nd : cs.Pairwise fun x y => x.1 ≠ y.1) :
    sumC (updC nm h cs) + lenP ((getC nm cs).getD ([], [])) = sumC cs + lenP (h ((getC nm cs).getD ([], []))) := by
  cases hg : getC nm cs with
  | none =>
    unfold updC
    rw [if_neg (by rw [getC_none.1 hg]; decide), sumC_app, sumC_cons]
    simp [sumC, lenP]
  | some x =>
    have hh : hasNm nm cs = true := by
      cases c : hasNm nm cs with
      | true => rfl
      | false => rw [getC_none.2 c] at hg; cases hg
    unfold updC
    rw [if_pos hh]
    simp only [Option.getD_some]
    clear hh
    induction cs with
    | nil => cases hg
    | cons y r ih =>
      rw [List.pairwise_cons] at nd
      rw [List.map_cons, sumC_cons, sumC_cons]
      by_cases e : y.1 = nm
      · have hx : x = y.2 := by
          unfold getC at hg
          rw [List.find?_cons_of_pos (by simpa using e)] at hg
          simpa using hg.symm
        have hr : r.map (fun x => if x.1 = nm then (x.1, h x.2) else x) = r := by
          refine (List.map_congr_left fun z hz => ?_).trans (List.map_id' r)
          exact if_neg (fun c => nd.1 z hz (e.trans c.symm))
        rw [hr, if_pos e, hx]
        simp only
        omega
      · have hg' : getC nm r = some x := by
          unfold getC at hg ⊢
          rw [List.find?_cons_of_neg (by simpa using e)] at hg
          exact hg
        have := ih nd.2 hg'
        rw [if_neg e]
        omega
theorem len_updC {nm : ByteArray} {h : List UInt8 × List UInt8 → List UInt8 × List UInt8} {cs : Con} : (updC nm h cs).length ≤ cs.length + 1 := by
  unfold updC; split <;> simp
theorem sum_off (k : Int) (cs : Con) : sumC (cs.map (offC k)) ≤ sumC cs := by
  induction cs with
  | nil => simp
  | cons y r ih =>
    rw [List.map_cons, sumC_cons, sumC_cons]
    have : lenP (offC k y).2 ≤ lenP y.2 := by simp only [lenP, offC, keepN, List.length_append, List.length_take, List.length_nil]; omega
    omega
/-- no more than so much -/
structure PD.fit (p : PD) (a s l : Nat) : Prop where
  a0 : 0 ≤ p.acts
  a1 : p.acts ≤ a
  f0 : 0 ≤ p.fuse
  f1 : p.fuse ≤ 9223372036854775807
  sum : sumC p.cs ≤ s
  len : p.cs.length ≤ l
theorem PD.fit.ok {p : PD} {a s l : Nat} (h : p.fit a s l) (ha : a ≤ 1000000) (hs : s ≤ 1000000) (hl : l ≤ 1000000) : p.ok := ⟨h.a0, by have := h.a1; omega, h.f0, h.f1, Nat.le_trans h.sum hs, Nat.le_trans h.len hl⟩
theorem PD.fit.mono {p : PD} {a s l a' s' l' : Nat} (h : p.fit a s l) (ha : a ≤ a') (hs : s ≤ s') (hl : l ≤ l') : p.fit a' s' l' := ⟨h.a0, by have := h.a1; omega, h.f0, h.f1, Nat.le_trans h.sum hs, Nat.le_trans h.len hl⟩
theorem PD.fit.lose {p : PD} {a s l : Nat} (h : p.fit a s l) (k : Int) : (p.lose k).fit a s l := by
  unfold PD.lose
  split
  · exact h
  · exact ⟨h.a0, h.a1, Int.le_refl 0, by show (0 : Int) ≤ _; omega, Nat.le_trans (sum_off k _) h.sum, by show (p.cs.map _).length ≤ l; rw [List.length_map]; exact h.len⟩
theorem PD.fit.on {p : PD} {a s l : Nat} (h : p.fit a s l) : { p with down := false : PD }.fit a s l := ⟨h.a0, h.a1, h.f0, h.f1, h.sum, h.len⟩
theorem PD.fit.arm {p : PD} {a s l : Nat} (h : p.fit a s l) (n k : Int) (hn : n ≤ 9223372036854775807) : (p.arm n k).fit a s l :=
  ⟨h.a0, h.a1, by show (0 : Int) ≤ (if n < 0 then 0 else n); split <;> omega, by show (if n < 0 then 0 else n) ≤ _; split <;> omega, h.sum, h.len⟩
theorem PD.fit.upd {p : PD} {a s l : Nat} (h : p.fit a s l) (nm : ByteArray) (hh : List UInt8 × List UInt8 → List UInt8 × List UInt8) (nd : p.cs.Pairwise fun x y => x.1 ≠ y.1) {s' : Nat} (hs : sumC (updC nm hh p.cs) ≤ s') : { p.tick with cs := updC nm hh p.cs : PD }.fit (a + 1) s' (l + 1) := by
  refine ⟨?_, ?_, ?_, ?_, hs, Nat.le_trans len_updC (by have := h.len; omega)⟩
  · have := h.a0; show 0 ≤ p.acts + 1; omega
  · have := h.a1; show p.acts + 1 ≤ _; omega
  · have := h.f0; show 0 ≤ (if 0 < p.fuse then p.fuse - 1 else p.fuse); split <;> omega
  · have := h.f1; show (if 0 < p.fuse then p.fuse - 1 else p.fuse) ≤ _; split <;> omega
theorem PD.fit.tick {p : PD} {a s l : Nat} (h : p.fit a s l) : p.tick.fit (a + 1) s l := by
  refine ⟨?_, ?_, ?_, ?_, h.sum, h.len⟩
  · have := h.a0; show 0 ≤ p.acts + 1; omega
  · have := h.a1; show p.acts + 1 ≤ _; omega
  · have := h.f0; show 0 ≤ (if 0 < p.fuse then p.fuse - 1 else p.fuse); split <;> omega
  · have := h.f1; show (if 0 < p.fuse then p.fuse - 1 else p.fuse) ≤ _; split <;> omega
theorem PD.fit.append {p : PD} {a s l : Nat} (h : p.fit a s l) (nm : ByteArray) (b : List UInt8) (nd : p.cs.Pairwise fun x y => x.1 ≠ y.1) : (appendP p nm b).1.fit (a + 1) (s + b.length) (l + 1) := by
  have h1 := sum_updC (nm := nm) (h := fun x => (x.1, x.2 ++ b)) nd
  have h2 := h.sum
  have h3 : sumC (updC nm (fun x => (x.1, x.2 ++ b)) p.cs) ≤ s + b.length := by simp only [lenP, List.length_append] at h1; omega
  unfold appendP
  split
  · exact h.mono (by omega) (by omega) (by omega)
  · split
    · exact (h.upd nm _ nd h3).lose _
    · exact h.upd nm _ nd h3
theorem PD.fit.sync {p : PD} {a s l : Nat} (h : p.fit a s l) (nm : ByteArray) (nd : p.cs.Pairwise fun x y => x.1 ≠ y.1) : (syncP p nm).1.fit (a + 1) s (l + 1) := by
  have h1 := sum_updC (nm := nm) (h := fun x => (x.1 ++ x.2, [])) nd
  have h2 := h.sum
  have h3 : sumC (updC nm (fun x => (x.1 ++ x.2, [])) p.cs) ≤ s := by simp only [lenP, List.length_append, List.length_nil] at h1; omega
  unfold syncP
  split
  · exact h.mono (by omega) (by omega) (by omega)
  · split
    · exact h.tick.lose _ |>.mono (Nat.le_refl _) (Nat.le_refl _) (by omega)
    · exact h.upd nm _ nd h3
theorem PD.fit.install {p : PD} {a s l : Nat} (h : p.fit a s l) (nm : ByteArray) (b : List UInt8) (nd : p.cs.Pairwise fun x y => x.1 ≠ y.1) : (installP p nm b).1.fit (a + 1) (s + b.length) (l + 1) := by
  have h1 := sum_updC (nm := nm) (h := fun _ => (b, [])) nd
  have h2 := h.sum
  have h3 : sumC (updC nm (fun _ => (b, [])) p.cs) ≤ s + b.length := by simp only [lenP, List.length_nil] at h1; omega
  unfold installP
  split
  · exact h.mono (by omega) (by omega) (by omega)
  · split
    · exact h.tick.lose _ |>.mono (Nat.le_refl _) (by omega) (by omega)
    · exact h.upd nm _ nd h3
/-- fewer bytes than there were -/
theorem PD.fit.install_le {p : PD} {a s l : Nat} (h : p.fit a s l) (nm : ByteArray) (b : List UInt8) (nd : p.cs.Pairwise fun x y => x.1 ≠ y.1) {x : List UInt8 × List UInt8} (hg : getC nm p.cs = some x) (hb : b.length ≤ lenP x) : (installP p nm b).1.fit (a + 1) s (l + 1) := by
  have h1 := sum_updC (nm := nm) (h := fun _ => (b, [])) nd
  rw [hg] at h1
  have h2 := h.sum
  have h3 : sumC (updC nm (fun _ => (b, [])) p.cs) ≤ s := by simp only [lenP, List.length_nil, Option.getD_some] at h1 hb; omega
  unfold installP
  split
  · exact h.mono (by omega) (by omega) (by omega)
  · split
    · exact h.tick.lose _ |>.mono (Nat.le_refl _) (by omega) (by omega)
    · exact h.upd nm _ nd h3
theorem codes_app (p : PD) (nm : ByteArray) (b : List UInt8) : (appendP p nm b).2 = 0 ∨ (appendP p nm b).2 = 21 := by unfold appendP; split; exact .inr rfl; split; exact .inr rfl; exact .inl rfl
theorem codes_sync (p : PD) (nm : ByteArray) : (syncP p nm).2 = 0 ∨ (syncP p nm).2 = 21 := by unfold syncP; split; exact .inr rfl; split; exact .inr rfl; exact .inl rfl
theorem codes_ins (p : PD) (nm : ByteArray) (b : List UInt8) : (installP p nm b).2 = 0 ∨ (installP p nm b).2 = 21 := by unfold installP; split; exact .inr rfl; split; exact .inr rfl; exact .inl rfl
end Go.Proofs.YtldicnhpccionaaDoor
