/-
The plain law: what is found behind a loss of power.
-/
import Derived.Test.YtldicnhpccionaaDoorTx
namespace Go.Proofs.YtldicnhpccionaaDoor
open Go.RowKit
set_option linter.unusedVariables false
set_option linter.unusedSimpArgs false
def Nd (cs : Con) : Prop := cs.Pairwise fun x y => x.1 ≠ y.1
theorem nd_map {cs : Con} (h : Nd cs) (g : ByteArray × List UInt8 × List UInt8 → ByteArray × List UInt8 × List UInt8) (hg : ∀ x, (g x).1 = x.1) : Nd (cs.map g) := by
  unfold Nd at *
  rw [List.pairwise_map]
  exact h.imp fun {a b} e => by rw [hg, hg]; exact e
theorem nd_upd {cs : Con} (h : Nd cs) (nm : ByteArray) (hh : List UInt8 × List UInt8 → List UInt8 × List UInt8) : Nd (updC nm hh cs) := by
  unfold updC
  split
  · exact nd_map h _ (fun x => by split <;> rfl)
  · rename_i hn
    unfold Nd
    rw [List.pairwise_append]
    refine ⟨h, List.pairwise_singleton _ _, fun a ha b hb => ?_⟩
    rw [List.mem_singleton] at hb
    subst hb
    intro e
    exact hn (hasNm_iff.2 (List.mem_map.2 ⟨a, ha, e⟩))
theorem nd_off {cs : Con} (h : Nd cs) (k : Int) : Nd (cs.map (offC k)) := nd_map h _ (fun _ => rfl)
theorem nd_lose {p : PD} (h : Nd p.cs) (k : Int) : Nd (p.lose k).cs := by unfold PD.lose; split; exact h; exact nd_off h k
theorem nd_install {p : PD} (h : Nd p.cs) (nm : ByteArray) (b : List UInt8) : Nd (installP p nm b).1.cs := by
  unfold installP; split
  · exact h
  · split
    · exact nd_lose (p := p.tick) h _
    · exact nd_upd h nm (fun _ => (b, []))
theorem PD.fit.opened {p : PD} {a s l : Nat} (h : p.fit a s l) (nm : ByteArray) (m : Nat) (nd : Nd p.cs) : (openP p nm m).1.fit (a + 2) s (l + 2) := by
  unfold openP
  split
  · exact h.mono (by omega) (by omega) (by omega)
  · split
    · exact h.mono (by omega) (by omega) (by omega)
    · rename_i x hg
      by_cases hm : m < (x.1 ++ x.2).length
      · simp only [if_pos hm]
        have h1 := h.install_le nm ((x.1 ++ x.2).take m) nd hg (by unfold lenP; rw [List.length_take, List.length_append]; omega)
        split
        · exact h1.sync nm (nd_install nd nm _)
        · exact h1.mono (by omega) (by omega) (by omega)
      · simp only [if_neg hm, if_true]
        exact (h.sync nm nd).mono (by omega) (by omega) (by omega)
/-- a file's two parts -/
def cont (nm : ByteArray) (p : PD) : List UInt8 × List UInt8 := (getC nm p.cs).getD ([], [])
def whole (nm : ByteArray) (p : PD) : List UInt8 := (cont nm p).1 ++ (cont nm p).2
theorem recs_nil : Recs [] [] 0 := .none (by unfold nextR; rfl)
theorem FileRecs.recs {nm : ByteArray} {p : PD} {outs : List (List UInt8)} {m : Nat} (h : FileRecs nm p.cs outs m) : ∃ m', Recs (whole nm p) outs m' ∧ (getC nm p.cs ≠ none → m' = m) := by
  unfold whole cont
  rcases h with ⟨hg, rfl⟩ | ⟨x, hg, hr⟩
  · rw [hg]; exact ⟨0, recs_nil, fun h => absurd rfl h⟩
  · rw [hg]; exact ⟨m, hr, fun _ => rfl⟩
/-- an opening where the power stays -/
theorem open_calm {p : PD} {nm : ByteArray} {outs : List (List UInt8)} {m : Nat} (hd : p.down = false) (hf : p.fuse ≠ 1) (hf2 : p.fuse ≠ 2) (hr : FileRecs nm p.cs outs m) :
    (openP p nm m).2 = 0 ∧ (openP p nm m).1.down = false ∧ (p.fuse = 0 → (openP p nm m).1.fuse = 0) ∧ (openP p nm m).1.keep = p.keep ∧ ∃ m', Recs (whole nm p) outs m' ∧ cont nm (openP p nm m).1 = ((whole nm p).take m', []) := by
  have e0 : ∀ q : PD, q.fuse ≠ 1 → q.fuse ≠ 2 → q.tick.fuse ≠ 1 := fun q h1 h2 => by show (if 0 < q.fuse then q.fuse - 1 else q.fuse) ≠ 1; split <;> omega
  have ez : ∀ q : PD, q.fuse = 0 → q.tick.fuse = 0 := fun q h => by show (if 0 < q.fuse then q.fuse - 1 else q.fuse) = 0; rw [if_neg (by omega)]; exact h
  rcases hr with ⟨hg, rfl⟩ | ⟨x, hg, hr⟩
  · have e1 : openP p nm m = (p, 0) := by unfold openP; rw [if_neg (by rw [hd]; decide), hg]
    rw [e1]
    refine ⟨rfl, hd, fun h => h, rfl, 0, ?_, ?_⟩
    · unfold whole cont; rw [hg]; exact recs_nil
    · unfold cont whole; rw [hg]; rfl
  · have hw : whole nm p = x.1 ++ x.2 := by unfold whole cont; rw [hg]; rfl
    have hml := hr.len
    have hsy : ∀ q : PD, q.down = false → q.fuse ≠ 1 → syncP q nm = ({ q.tick with cs := updC nm (fun x => (x.1 ++ x.2, [])) q.cs }, 0) := fun q h1 h2 => by
      unfold syncP; rw [if_neg (by rw [h1]; decide), if_neg h2]
    rw [hw]
    unfold openP
    rw [if_neg (by rw [hd]; decide), hg]
    by_cases hm : m < (x.1 ++ x.2).length
    · have hin : installP p nm ((x.1 ++ x.2).take m) = ({ p.tick with cs := updC nm (fun _ => ((x.1 ++ x.2).take m, [])) p.cs }, 0) := by
        unfold installP; rw [if_neg (by rw [hd]; decide), if_neg hf]
      simp only [if_pos hm, hin, if_true]
      rw [hsy { p.tick with cs := updC nm (fun _ => ((x.1 ++ x.2).take m, [])) p.cs } hd (e0 p hf hf2)]
      refine ⟨rfl, hd, fun h => ez _ (ez p h), rfl, m, hr, ?_⟩
      unfold cont
      simp only
      rw [getC_upd, getC_upd]
      simp
    · simp only [if_neg hm, if_true]
      rw [hsy _ hd hf]
      refine ⟨rfl, hd, fun h => ez p h, rfl, m, hr, ?_⟩
      unfold cont
      simp only
      rw [getC_upd, hg]
      simp only [Option.getD_some]
      rw [List.take_of_length_le (by omega)]
/-- a beginning of records -/
theorem prefix_recs {ls : List (List UInt8)} (h : ∀ l ∈ ls, l.length ≤ 100000) {x : List UInt8} (hx : x <+: framesL ls) : ∃ j t, j ≤ ls.length ∧ x = framesL (ls.take j) ++ t ∧ nextR t = none := by
  induction ls generalizing x with
  | nil =>
    have : x = [] := by simpa [framesL] using hx
    exact ⟨0, [], Nat.le_refl _, by rw [this]; rfl, by unfold nextR; rfl⟩
  | cons l r ih =>
    have e : framesL (l :: r) = frameL l ++ framesL r := by simp [framesL]
    rw [e] at hx
    obtain ⟨y, hy⟩ := hx
    by_cases hc : x.length < (frameL l).length
    · refine ⟨0, x, Nat.zero_le _, rfl, ?_⟩
      have : x = (frameL l).take x.length := by
        have := congrArg (List.take x.length) hy
        rw [List.take_left' rfl, List.take_append_of_le_length (by omega)] at this
        exact this
      rw [this]
      exact next_part (t := []) (h l (by simp)) hc
    · have h1 : x = frameL l ++ x.drop (frameL l).length := by
        have h2 := congrArg (List.take (frameL l).length) hy
        rw [List.take_append_of_le_length (by omega), List.take_left' rfl] at h2
        exact ((congrArg (· ++ x.drop (frameL l).length) h2).symm.trans (List.take_append_drop _ _)).symm
      have h3 : x.drop (frameL l).length <+: framesL r := by
        refine ⟨y, ?_⟩
        have h2 := congrArg (List.drop (frameL l).length) hy
        rw [List.drop_append_of_le_length (by omega), List.drop_left' rfl] at h2
        exact h2
      obtain ⟨j, t, hj, hxt, ht⟩ := ih (fun z hz => h z (by simp [hz])) h3
      refine ⟨j + 1, t, by simp; omega, ?_, ht⟩
      rw [List.take_succ_cons]
      have e2 : framesL (l :: r.take j) = frameL l ++ framesL (r.take j) := by simp [framesL]
      rw [e2, List.append_assoc, ← hxt]
      exact h1
theorem recs_of_prefix {ls : List (List UInt8)} (h : ∀ l ∈ ls, l.length ≤ 100000) {x : List UInt8} (hx : x <+: framesL ls) {outs : List (List UInt8)} {m : Nat} (hr : Recs x outs m) :
    ∃ j, j ≤ ls.length ∧ outs = ls.take j ∧ x.take m = framesL outs ∧ ∀ s, s ≤ ls.length → framesL (ls.take s) <+: x → s ≤ j := by
  obtain ⟨j, t, hj, rfl, ht⟩ := prefix_recs h hx
  have h1 := recs_frames (ls := ls.take j) (fun l hl => h l (List.mem_of_mem_take hl)) (.none ht)
  obtain ⟨rfl, rfl⟩ := hr.det h1
  rw [List.append_nil, Nat.add_zero]
  refine ⟨j, hj, rfl, List.take_left' rfl, fun s hs hp => ?_⟩
  refine Nat.le_of_not_lt fun hlt => ?_
  have hjl : j < ls.length := by omega
  have h2 : framesL (ls.take (j + 1)) <+: framesL (ls.take s) := by
    refine ⟨framesL ((ls.take s).drop (j + 1)), ?_⟩
    have : ls.take (j + 1) = (ls.take s).take (j + 1) := by rw [List.take_take, Nat.min_eq_left (by omega)]
    rw [this]
    unfold framesL
    rw [← List.flatMap_append, List.take_append_drop]
  have h3 := h2.trans hp
  rw [framesL_take hjl] at h3
  obtain ⟨y, hy⟩ := h3
  rw [List.append_assoc] at hy
  have h4 := List.append_cancel_left hy
  have h5 := next_frame (l := ls.getD j []) (t := y) (h _ (by rw [List.getD_eq_getElem?_getD, List.getElem?_eq_getElem hjl]; exact List.getElem_mem hjl))
  rw [h4, ht] at h5
  cases h5
theorem cont_upd (nm : ByteArray) (hh : List UInt8 × List UInt8 → List UInt8 × List UInt8) (p q : PD) (hq : q.cs = updC nm hh p.cs) : cont nm q = hh (cont nm p) := by
  unfold cont; rw [hq, getC_upd]; rfl
theorem cont_off (nm : ByteArray) (k : Int) (p q : PD) (hq : q.cs = p.cs.map (offC k)) : cont nm q = ((cont nm p).1 ++ keepN k (cont nm p).2, []) := by
  unfold cont; rw [hq, getC_off]
  cases getC nm p.cs with
  | none => simp [keepN]
  | some x => rfl
theorem cont_lose (nm : ByteArray) (k : Int) (p : PD) (hd : p.down = false) : cont nm (p.lose k) = ((cont nm p).1 ++ keepN k (cont nm p).2, []) ∧ (p.lose k).down = true ∧ (p.lose k).fuse = 0 := by
  have e : p.lose k = { p with down := true, fuse := 0, cs := p.cs.map (offC k) } := by unfold PD.lose; rw [if_neg (by rw [hd]; decide)]
  rw [e]
  exact ⟨cont_off nm k p _ rfl, rfl, rfl⟩
theorem tick_zero {p : PD} (h : p.fuse = 0) : p.tick.fuse = 0 := by show (if 0 < p.fuse then p.fuse - 1 else p.fuse) = 0; rw [if_neg (by omega)]; exact h
/-- an append: done, or done and the power goes -/
theorem append_cases (nm : ByteArray) (b : List UInt8) (p : PD) (hd : p.down = false) :
    (p.fuse ≠ 1 ∧ (appendP p nm b).2 = 0 ∧ (appendP p nm b).1.down = false ∧ (p.fuse = 0 → (appendP p nm b).1.fuse = 0) ∧ (appendP p nm b).1.keep = p.keep ∧ cont nm (appendP p nm b).1 = ((cont nm p).1, (cont nm p).2 ++ b)) ∨
    (p.fuse = 1 ∧ (appendP p nm b).2 = 21 ∧ (appendP p nm b).1.down = true ∧ (appendP p nm b).1.fuse = 0 ∧ cont nm (appendP p nm b).1 = ((cont nm p).1 ++ keepN p.keep ((cont nm p).2 ++ b), [])) := by
  have h1 := cont_upd nm (fun x => (x.1, x.2 ++ b)) p { p.tick with cs := updC nm (fun x => (x.1, x.2 ++ b)) p.cs } rfl
  by_cases hf : p.fuse = 1
  · right
    have e : appendP p nm b = (({ p.tick with cs := updC nm (fun x => (x.1, x.2 ++ b)) p.cs } : PD).lose p.keep, 21) := by
      unfold appendP; rw [if_neg (by rw [hd]; decide), if_pos hf]; rfl
    rw [e]
    obtain ⟨c1, c2, c3⟩ := cont_lose nm p.keep { p.tick with cs := updC nm (fun x => (x.1, x.2 ++ b)) p.cs } hd
    refine ⟨hf, rfl, c2, c3, ?_⟩
    rw [c1, h1]
  · left
    have e : appendP p nm b = ({ p.tick with cs := updC nm (fun x => (x.1, x.2 ++ b)) p.cs }, 0) := by
      unfold appendP; rw [if_neg (by rw [hd]; decide), if_neg hf]
    rw [e]
    exact ⟨hf, rfl, hd, tick_zero, rfl, h1⟩
theorem sync_cases (nm : ByteArray) (p : PD) (hd : p.down = false) :
    (p.fuse ≠ 1 ∧ (syncP p nm).2 = 0 ∧ (syncP p nm).1.down = false ∧ (p.fuse = 0 → (syncP p nm).1.fuse = 0) ∧ (syncP p nm).1.keep = p.keep ∧ cont nm (syncP p nm).1 = (whole nm p, [])) ∨
    (p.fuse = 1 ∧ (syncP p nm).2 = 21 ∧ (syncP p nm).1.down = true ∧ (syncP p nm).1.fuse = 0 ∧ cont nm (syncP p nm).1 = ((cont nm p).1 ++ keepN p.keep (cont nm p).2, [])) := by
  by_cases hf : p.fuse = 1
  · right
    have e : syncP p nm = (p.tick.lose p.keep, 21) := by unfold syncP; rw [if_neg (by rw [hd]; decide), if_pos hf]
    rw [e]
    obtain ⟨c1, c2, c3⟩ := cont_lose nm p.keep p.tick hd
    exact ⟨hf, rfl, c2, c3, c1⟩
  · left
    have e : syncP p nm = ({ p.tick with cs := updC nm (fun x => (x.1 ++ x.2, [])) p.cs }, 0) := by unfold syncP; rw [if_neg (by rw [hd]; decide), if_neg hf]
    rw [e]
    exact ⟨hf, rfl, hd, tick_zero, rfl, cont_upd nm (fun x => (x.1 ++ x.2, [])) p _ rfl⟩
theorem install_cases (nm : ByteArray) (b : List UInt8) (p : PD) (hd : p.down = false) :
    (p.fuse ≠ 1 ∧ (installP p nm b).2 = 0 ∧ (installP p nm b).1.down = false ∧ (p.fuse = 0 → (installP p nm b).1.fuse = 0) ∧ (installP p nm b).1.keep = p.keep ∧ cont nm (installP p nm b).1 = (b, [])) ∨
    (p.fuse = 1 ∧ (installP p nm b).2 = 21 ∧ (installP p nm b).1.down = true ∧ (installP p nm b).1.fuse = 0 ∧ cont nm (installP p nm b).1 = ((cont nm p).1 ++ keepN p.keep (cont nm p).2, [])) := by
  by_cases hf : p.fuse = 1
  · right
    have e : installP p nm b = (p.tick.lose p.keep, 21) := by unfold installP; rw [if_neg (by rw [hd]; decide), if_pos hf]
    rw [e]
    obtain ⟨c1, c2, c3⟩ := cont_lose nm p.keep p.tick hd
    exact ⟨hf, rfl, c2, c3, c1⟩
  · left
    have e : installP p nm b = ({ p.tick with cs := updC nm (fun _ => (b, [])) p.cs }, 0) := by unfold installP; rw [if_neg (by rw [hd]; decide), if_neg hf]
    rw [e]
    exact ⟨hf, rfl, hd, tick_zero, rfl, cont_upd nm (fun _ => (b, [])) p _ rfl⟩

end Go.Proofs.YtldicnhpccionaaDoor
