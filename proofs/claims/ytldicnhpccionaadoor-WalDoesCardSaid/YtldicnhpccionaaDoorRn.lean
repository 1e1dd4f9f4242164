/-
The reference's disk holds the same as the disk; its opening.
-/
import Derived.Test.YtldicnhpccionaaDoorRm
namespace Go.Proofs.YtldicnhpccionaaDoor
open Go.RowKit
set_option linter.unusedVariables false
set_option linter.unusedSimpArgs false
/-- the reference's disk, said as the disk -/
structure RkS (mb : Nat) (G : Nat → Prop) (p : PD) (w : World) : Prop where
  ex : ∃ v, Rk mb p.down p.acts p.fuse p.keep (getC nmLog p.cs) v w ∧ ∀ i, rkFp mb v i → G i
theorem Rk.fpLt {mb : Nat} {down : Bool} {acts fuse keep : Int} {fo : Option (List UInt8 × List UInt8)} {v : Value} {w : World} (h : Rk mb down acts fuse keep fo v w) {i : Nat} (hi : rkFp mb v i) : i < w.heap.size := hi.elim (fun e => e ▸ h.lt) (fun e => (h.file.ne e).2)
theorem RkS.mv {mb : Nat} {G : Nat → Prop} {p : PD} {w w' : World} {fp : Nat → Prop} (h : RkS mb G p w) (m : Mv fp w w') (hf : ∀ i, G i → ¬ fp i) : RkS mb G p w' := by
  obtain ⟨v, r, hG⟩ := h.ex
  exact ⟨⟨v, r.mv m (hf _ (hG _ (.inl rfl))) (fun g hg => hf _ (hG _ (.inr hg))), hG⟩⟩
theorem RkS.mono {mb : Nat} {G G' : Nat → Prop} {p : PD} {w : World} (h : RkS mb G p w) (hg : ∀ i, i < w.heap.size → G i → G' i) : RkS mb G' p w := by
  obtain ⟨v, r, hG⟩ := h.ex
  exact ⟨⟨v, r, fun i hi => hg i (r.fpLt hi) (hG i hi)⟩⟩
def RDkEnd (mb : Nat) (G : Nat → Prop) (p' : PD) (c : Int) (w : World) (e : Ending) (w' : World) : Prop :=
  e = .returned (.int .i64 c) ∧ RkS mb (orNew G w) p' w' ∧ Mv G w w'
theorem foS_getC (nm : ByteArray) (cs : Con) : foS (getC nm cs) = (getC nm cs).getD ([], []) := by cases getC nm cs <;> rfl
theorem foLen_le {nm : ByteArray} {cs : Con} : foLen (getC nm cs) ≤ sumC cs := by
  cases h : getC nm cs with
  | none => exact Nat.zero_le _
  | some x =>
    have := sumC_le_of_get h
    show (x.1 ++ x.2).length ≤ _
    rw [List.length_append]; exact this
theorem RkEnd.S {mb : Nat} {G : Nat → Prop} {p' : PD} {v : Value} {c : Int} {down : Bool} {acts fuse keep : Int} {fo : Option (List UInt8 × List UInt8)} {w : World} {e : Ending} {w' : World} (h : RkEnd mb v down acts fuse keep fo c w e w') (hG : ∀ i, rkFp mb v i → G i)
    (h1 : p'.down = down) (h2 : p'.acts = acts) (h3 : p'.fuse = fuse) (h4 : p'.keep = keep) (h5 : getC nmLog p'.cs = fo) : RDkEnd mb G p' c w e w' := by
  obtain ⟨he, m, v', r, o⟩ := h
  subst h1; subst h2; subst h3; subst h4; subst h5
  exact ⟨he, ⟨⟨v', r, fun i hi => (o i hi).elim (fun c => .inl (hG i c)) .inr⟩⟩, m.mono (fun i _ hi => hG i hi)⟩
theorem getC_lose (nm : ByteArray) (k : Int) (cs : Con) : getC nm (cs.map (offC k)) = loseF k (getC nm cs) := getC_off nm k cs
section
variable {mb : Nat} {G : Nat → Prop} {p : PD}
set_option maxRecDepth 100000 in
theorem rdown3 {acts fuse keep : Int} {fo : Option (List UInt8 × List UInt8)} {v : Value} (w : World) (h : Rk mb true acts fuse keep fo v w) (t : ByteArray) :
    Calls Tryd.prog 25 #[.pointer (some ⟨mb, 0, none⟩), .string nmLog, .string t] w (fun e w' => e = .returned (.int .i64 21) ∧ w = w') ∧
    Calls Tryd.prog 28 #[.pointer (some ⟨mb, 0, none⟩), .string nmLog, .string t] w (fun e w' => e = .returned (.int .i64 21) ∧ w = w') ∧
    Calls Tryd.prog 27 #[.pointer (some ⟨mb, 0, none⟩), .string nmLog] w (fun e w' => e = .returned (.int .i64 21) ∧ w = w') := by
  have c1 : w.cell? ⟨mb, 1, none⟩ = some (.bool true) := cell_at h.cells rfl
  obtain ⟨N, hN⟩ : ∃ N, nmLog = N := ⟨_, rfl⟩
  rw [hN]
  clear h hN
  refine ⟨?_, ?_, ?_⟩
  · go_enter Tryd.func25, Tryd.ntmps25
    go_wp2_with fail
    go_ret
    exact ⟨rfl, rfl⟩
  · go_enter Tryd.func28, Tryd.ntmps28
    go_wp2_with fail
    go_ret
    exact ⟨rfl, rfl⟩
  · go_enter Tryd.func27, Tryd.ntmps27
    go_wp2_with fail
    go_ret
    exact ⟨rfl, rfl⟩
theorem RkS.same {w : World} (h : RkS mb G p w) (c : Int) : RDkEnd mb G p c w (.returned (.int .i64 c)) w := ⟨rfl, h.mono (fun i _ hi => .inl hi), Mv.refl _ _⟩
theorem rappend_S (b : List UInt8) (w : World) (h : RkS mb G p w) (ok : p.ok) (hl : sumC p.cs + b.length ≤ 1000000) :
    Calls Tryd.prog 25 #[.pointer (some ⟨mb, 0, none⟩), .string nmLog, .string (tx b)] w (RDkEnd mb G (appendP p nmLog b).1 (appendP p nmLog b).2 w) := by
  have h0 := h
  obtain ⟨v, r, hG⟩ := h.ex
  cases hd : p.down with
  | true =>
    have e1 : appendP p nmLog b = (p, 21) := by unfold appendP; rw [if_pos hd]
    rw [e1]
    rw [hd] at r
    refine (rdown3 w r (tx b)).1.mono ?_
    rintro e w' ⟨rfl, rfl⟩
    exact h0.same 21
  | false =>
    rw [hd] at r
    have hr := rappend_any b w r ok.a0 ok.a1 ok.f0 ok.f1 (by have := foLen_le (nm := nmLog) (cs := p.cs); omega)
    have hg := getC_upd nmLog (fun x => (x.1, x.2 ++ b)) p.cs
    rw [← foS_getC] at hg
    by_cases h1 : p.fuse = 1
    · rw [if_pos h1] at hr
      have e1 : appendP p nmLog b = (({ p.tick with cs := updC nmLog (fun x => (x.1, x.2 ++ b)) p.cs } : PD).lose p.keep, 21) := by
        unfold appendP; rw [if_neg (by rw [hd]; decide), if_pos h1]; rfl
      have e2 : ({ p.tick with cs := updC nmLog (fun x => (x.1, x.2 ++ b)) p.cs } : PD).lose p.keep = { ({ p.tick with cs := updC nmLog (fun x => (x.1, x.2 ++ b)) p.cs } : PD) with down := true, fuse := 0, cs := (updC nmLog (fun x => (x.1, x.2 ++ b)) p.cs).map (offC p.keep) } := by
        unfold PD.lose; exact if_neg (by show ¬ p.down = true; rw [hd]; decide)
      rw [e1, e2]
      exact hr.mono fun e w' hh => hh.S hG rfl rfl rfl rfl (by show getC nmLog (List.map _ _) = _; rw [getC_lose, hg])
    · rw [if_neg h1] at hr
      have e1 : appendP p nmLog b = ({ p.tick with cs := updC nmLog (fun x => (x.1, x.2 ++ b)) p.cs }, 0) := by
        unfold appendP; rw [if_neg (by rw [hd]; decide), if_neg h1]
      rw [e1]
      exact hr.mono fun e w' hh => hh.S hG hd rfl rfl rfl hg
theorem rsync_S (w : World) (h : RkS mb G p w) (ok : p.ok) :
    Calls Tryd.prog 27 #[.pointer (some ⟨mb, 0, none⟩), .string nmLog] w (RDkEnd mb G (syncP p nmLog).1 (syncP p nmLog).2 w) := by
  have h0 := h
  obtain ⟨v, r, hG⟩ := h.ex
  cases hd : p.down with
  | true =>
    have e1 : syncP p nmLog = (p, 21) := by unfold syncP; rw [if_pos hd]
    rw [e1]
    rw [hd] at r
    refine (rdown3 w r (tx [])).2.2.mono ?_
    rintro e w' ⟨rfl, rfl⟩
    exact h0.same 21
  | false =>
    rw [hd] at r
    have hr := rsync_any w r ok.a0 ok.a1 ok.f0 ok.f1 (by have := foLen_le (nm := nmLog) (cs := p.cs); have := ok.sum; omega)
    have hg := getC_upd nmLog (fun x => (x.1 ++ x.2, [])) p.cs
    rw [← foS_getC] at hg
    by_cases h1 : p.fuse = 1
    · rw [if_pos h1] at hr
      have e1 : syncP p nmLog = (p.tick.lose p.keep, 21) := by unfold syncP; rw [if_neg (by rw [hd]; decide), if_pos h1]
      have e2 : p.tick.lose p.keep = { p.tick with down := true, fuse := 0, cs := p.cs.map (offC p.keep) } := by
        unfold PD.lose; exact if_neg (by show ¬ p.down = true; rw [hd]; decide)
      rw [e1, e2]
      exact hr.mono fun e w' hh => hh.S hG rfl rfl rfl rfl (getC_lose _ _ _)
    · rw [if_neg h1] at hr
      have e1 : syncP p nmLog = ({ p.tick with cs := updC nmLog (fun x => (x.1 ++ x.2, [])) p.cs }, 0) := by unfold syncP; rw [if_neg (by rw [hd]; decide), if_neg h1]
      rw [e1]
      exact hr.mono fun e w' hh => hh.S hG hd rfl rfl rfl hg
theorem rinstall_S (b : List UInt8) (w : World) (h : RkS mb G p w) (ok : p.ok) (hl : sumC p.cs + b.length ≤ 1000000) :
    Calls Tryd.prog 28 #[.pointer (some ⟨mb, 0, none⟩), .string nmLog, .string (tx b)] w (RDkEnd mb G (installP p nmLog b).1 (installP p nmLog b).2 w) := by
  have h0 := h
  obtain ⟨v, r, hG⟩ := h.ex
  cases hd : p.down with
  | true =>
    have e1 : installP p nmLog b = (p, 21) := by unfold installP; rw [if_pos hd]
    rw [e1]
    rw [hd] at r
    refine (rdown3 w r (tx b)).2.1.mono ?_
    rintro e w' ⟨rfl, rfl⟩
    exact h0.same 21
  | false =>
    rw [hd] at r
    have hr := rinstall_any b w r ok.a0 ok.a1 ok.f0 ok.f1 (by have := foLen_le (nm := nmLog) (cs := p.cs); omega)
    have hg := getC_upd nmLog (fun _ => (b, [])) p.cs
    by_cases h1 : p.fuse = 1
    · rw [if_pos h1] at hr
      have e1 : installP p nmLog b = (p.tick.lose p.keep, 21) := by unfold installP; rw [if_neg (by rw [hd]; decide), if_pos h1]
      have e2 : p.tick.lose p.keep = { p.tick with down := true, fuse := 0, cs := p.cs.map (offC p.keep) } := by
        unfold PD.lose; exact if_neg (by show ¬ p.down = true; rw [hd]; decide)
      rw [e1, e2]
      exact hr.mono fun e w' hh => hh.S hG rfl rfl rfl rfl (getC_lose _ _ _)
    · rw [if_neg h1] at hr
      have e1 : installP p nmLog b = ({ p.tick with cs := updC nmLog (fun _ => (b, [])) p.cs }, 0) := by unfold installP; rw [if_neg (by rw [hd]; decide), if_neg h1]
      rw [e1]
      exact hr.mono fun e w' hh => hh.S hG hd rfl rfl rfl hg
/-- what Lose leaves -/
def RUEnd (mb : Nat) (G : Nat → Prop) (p' : PD) (w : World) (e : Ending) (w' : World) : Prop := e = .returned (.tuple #[]) ∧ RkS mb (orNew G w) p' w' ∧ Mv G w w'
theorem rlose_S (k : Int) (w : World) (h : RkS mb G p w) (ok : p.ok) :
    Calls Tryd.prog 29 #[.pointer (some ⟨mb, 0, none⟩), .int .i64 k] w (RUEnd mb G (p.lose k) w) := by
  have h0 := h
  obtain ⟨v, r, hG⟩ := h.ex
  cases hd : p.down with
  | true =>
    have e1 : p.lose k = p := by unfold PD.lose; rw [if_pos hd]
    rw [e1]
    rw [hd] at r
    refine (rlose_down k w r).mono ?_
    rintro e w' ⟨rfl, rfl⟩
    exact ⟨rfl, h0.mono (fun i _ hi => .inl hi), Mv.refl _ _⟩
  | false =>
    have e1 : p.lose k = { p with down := true, fuse := 0, cs := p.cs.map (offC k) } := by unfold PD.lose; rw [if_neg (by rw [hd]; decide)]
    rw [e1]
    rw [hd] at r
    refine (rlose_any k w r (by have := foLen_le (nm := nmLog) (cs := p.cs); have := ok.sum; omega)).mono ?_
    rintro e w' ⟨he, r', m'⟩
    exact ⟨he, ⟨⟨v, by show Rk mb true p.acts 0 p.keep (getC nmLog (p.cs.map (offC k))) v w'; rw [getC_lose]; exact r', fun i hi => .inl (hG i hi)⟩⟩, m'.mono (fun i _ hi => hG i hi)⟩
theorem rarm_S (n k : Int) (w : World) (h : RkS mb G p w) :
    Calls Tryd.prog 30 #[.pointer (some ⟨mb, 0, none⟩), .int .i64 n, .int .i64 k] w (RUEnd mb G (p.arm n k) w) := by
  obtain ⟨v, r, hG⟩ := h.ex
  refine (rarm_any n k w r).mono ?_
  rintro e w' ⟨he, r', m'⟩
  exact ⟨he, ⟨⟨v, r', fun i hi => .inl (hG i hi)⟩⟩, m'.mono (fun i _ hi => hG i (.inl hi))⟩
end
theorem recs_take {l : List UInt8} {outs : List (List UInt8)} {m : Nat} (h : Recs l outs m) : framesL outs = l.take m := by
  induction h with
  | none _ => rfl
  | @some l r o m h t ih =>
    obtain ⟨h1, h2, h3, h4, -⟩ := nextR_some h
    have hf := nextR_frame h1 (by omega)
    rw [← h2, ← h4] at hf
    have e : frameL r = l.take (12 + r.length) := by
      by_cases c : frameL r = l.take (12 + r.length)
      · exact c
      · rw [hf.2 c] at h; cases h
    have e2 : framesL (r :: o) = frameL r ++ framesL o := by simp [framesL]
    rw [e2, e, ih]
    exact List.take_add.symm
/-- what the reference's Open answers -/
def ROpenEnd (mb : Nat) (G : Nat → Prop) (p : PD) (w : World) (e : Ending) (w' : World) : Prop :=
  ∃ outs m vo, FileRecs nmLog p.cs outs m ∧ e = .returned (.tuple #[vo, .int .i64 (openP p nmLog m).2]) ∧ ((openP p nmLog m).2 = 0 → Strs (fun i => w.heap.size ≤ i) w' vo (outs.map tx)) ∧ ((openP p nmLog m).2 ≠ 0 → vo = .slice none 0 0) ∧ RkS mb (orNew G w) (openP p nmLog m).1 w' ∧ Mv G w w'
theorem strs_nil (P : Nat → Prop) (w : World) : Strs P w (.slice none 0 0) [] := ⟨⟨none, 0, rfl, fun h => by simp at h⟩⟩
theorem orNew_two {G : Nat → Prop} {w w1 : World} (h : w.heap.size ≤ w1.heap.size) {i : Nat} (hi : orNew (orNew G w) w1 i) : orNew G w i := hi.elim id (fun c => .inr (Nat.le_trans h c))
set_option maxRecDepth 100000 in
set_option maxHeartbeats 1000000 in
theorem ropen_S {mb : Nat} {G : Nat → Prop} {p : PD} {a s l : Nat} (w : World) (h : RkS mb G p w) (ft : p.fit a s l) (ha : a ≤ 9000) (hs : s ≤ 99000) (hl : l ≤ 9000) (nd : p.cs.Pairwise fun x y => x.1 ≠ y.1) (gl : ∀ i, G i → i < w.heap.size) :
    Calls Tryd.prog 26 #[.pointer (some ⟨mb, 0, none⟩), .string nmLog] w (ROpenEnd mb G p w) := by
  have H := Lib.hid h
  obtain ⟨v, r, hG⟩ := h.ex
  have hrd := rread_any w r
  cases hd : p.down with
  | true =>
    have hf : ∃ outs m, FileRecs nmLog p.cs outs m := by
      cases hg : getC nmLog p.cs with
      | none => exact ⟨[], 0, .inl ⟨hg, rfl⟩⟩
      | some x =>
        obtain ⟨o, m, hr⟩ := Recs.ex (x.1 ++ x.2)
        exact ⟨o, m, .inr ⟨x, hg, hr⟩⟩
    obtain ⟨outs, m, hfr⟩ := hf
    have e1 : openP p nmLog m = (p, 21) := by unfold openP; rw [if_pos hd]
    rw [hd] at hrd
    obtain ⟨N, hN⟩ : ∃ N, nmLog = N := ⟨_, rfl⟩
    have HRD := Lib.hid hrd
    have HE := Lib.hid (show ∀ w', Below w.heap.size w w' → ROpenEnd mb G p w (.returned (.tuple #[.slice none 0 0, .int .i64 21])) w' from fun w' hb => ⟨outs, m, .slice none 0 0, hfr, by rw [e1], fun c => (by rw [e1] at c; cases c), fun _ => rfl, by rw [e1]; exact (H.out.mv (Mv.of_below (fp := fun _ => False) hb) (fun _ _ c => c)).mono (fun i _ hi => .inl hi), Mv.of_below hb⟩)
    rw [hN] at HRD ⊢
    clear h r hG hrd hfr e1 hN
    go_enter Tryd.func26, Tryd.ntmps26
    go_wp2_with fail
    refine HRD.out.mono ?_
    rintro e w1 ⟨b1, rfl⟩
    have E := Lib.hid (HE.out w1 b1)
    simp only [if_true]
    clear b1
    go_wp2_with fail
    go_ret2
    exact E.out
  | false =>
    rw [hd] at hrd
    cases hg : getC nmLog p.cs with
    | none =>
      have e1 : ∀ m, openP p nmLog m = (p, 0) := fun m => by unfold openP; rw [if_neg (by rw [hd]; decide), hg]
      rw [hg] at hrd
      obtain ⟨N, hN⟩ : ∃ N, nmLog = N := ⟨_, rfl⟩
      have HRD := Lib.hid hrd
      have HE := Lib.hid (show ∀ w', Below w.heap.size w w' → ROpenEnd mb G p w (.returned (.tuple #[.slice none 0 0, .int .i64 0])) w' from fun w' hb => ⟨[], 0, .slice none 0 0, .inl ⟨hg, rfl⟩, by rw [e1], fun _ => strs_nil _ _, fun _ => rfl, by rw [e1]; exact (H.out.mv (Mv.of_below (fp := fun _ => False) hb) (fun _ _ c => c)).mono (fun i _ hi => .inl hi), Mv.of_below hb⟩)
      rw [hN] at HRD ⊢
      clear h r hG hrd e1 hN hg
      go_enter Tryd.func26, Tryd.ntmps26
      go_wp2_with fail
      refine HRD.out.mono ?_
      rintro e w1 ⟨b1, rfl⟩
      have E := Lib.hid (HE.out w1 b1)
      clear b1
      go_wp2_with fail
      go_ret2
      exact E.out
    | some x =>
      rw [hg] at hrd
      have hlx : lenP x ≤ s := Nat.le_trans (sumC_le_of_get hg) ft.sum
      obtain ⟨y, hy⟩ : ∃ y, x.1 ++ x.2 = y := ⟨_, rfl⟩
      have hyl : y.length ≤ 99000 := by rw [← hy, List.length_append]; exact Nat.le_trans hlx hs
      have hfo : (foS (some x)).1 ++ (foS (some x)).2 = y := hy
      have hrd2 : Calls Tryd.prog 31 #[.pointer (some ⟨mb, 0, none⟩), .string nmLog] w fun e w' => Below w.heap.size w w' ∧ e = .returned (.tuple #[.string (tx y), .int .i64 0]) := hrd.mono fun e w' hh => ⟨hh.1, by rw [hh.2, hfo]; simp⟩
      have HRD := Lib.hid hrd2
      have HG := Lib.hid hg
      have HY := Lib.hid hy
      have HYL := Lib.hid hyl
      have HFT := Lib.hid (And.intro ft nd)
      have HGL := Lib.hid gl
      have HD := Lib.hid hd
      have hsp := fun w1 => rsplit_any y w1 hyl
      obtain ⟨ty, hty⟩ : ∃ t, tx y = t := ⟨_, rfl⟩
      rw [hty] at hsp HRD
      have HSP := Lib.hid hsp
      clear h r hG hrd hg hlx hy hyl hfo hrd2 ft nd gl hd hsp hty
      go_enter Tryd.func26, Tryd.ntmps26
      go_wp2_with fail
      refine HRD.out.mono ?_
      rintro e w1 ⟨b1, rfl⟩
      have B1 := Lib.hid b1
      clear b1
      go_wp2_with fail
      refine (HSP.out w1).mono ?_
      rintro e w2 ⟨vo, outs, m, rfl, hr, ot, b2⟩
      have hfr := recs_take hr
      have hml := hr.len
      have HR := Lib.hid hr
      have hst : Strs (fun i => w.heap.size ≤ i) w2 vo (outs.map tx) := ot.strs.mv (Mv.refl (fun _ => False) _) (fun i _ hi => ⟨fun c => c, Nat.le_trans B1.out.size hi⟩)
      have HST := Lib.hid hst
      have B2 := Lib.hid (B1.out.trans (b2.mono B1.out.size))
      have hrk2 := H.out.mv (Mv.of_below (fp := fun _ => False) B2.out) (fun _ _ c => c)
      have HRK := Lib.hid hrk2
      -- what stands at the end
      have hend : ∀ (p' : PD) (c : Int) w6, openP p nmLog m = (p', c) → Mv G w2 w6 → RkS mb (orNew G w) p' w6 → ROpenEnd mb G p w (.returned (.tuple #[if c = 0 then vo else .slice none 0 0, .int .i64 c])) w6 := fun p' c w6 he m6 r6 => by
        refine ⟨outs, m, _, .inr ⟨x, HG.out, by rw [HY.out]; exact HR.out⟩, by rw [he], fun h0 => ?_, fun h0 => ?_, by rw [he]; exact r6, (Mv.of_below B2.out).trans (fq := G) m6 (fun _ _ c => c)⟩
        · rw [he] at h0
          rw [if_pos h0]
          exact HST.out.mv m6 (fun i _ hi => ⟨fun c => by have := HGL.out i c; omega, hi⟩)
        · rw [he] at h0
          rw [if_neg h0]
      have HEND := Lib.hid hend
      have hop : openP p nmLog m = (if m < y.length then (if (installP p nmLog (y.take m)).2 = 0 then syncP (installP p nmLog (y.take m)).1 nmLog else installP p nmLog (y.take m)) else syncP p nmLog) := by
        unfold openP
        rw [if_neg (by rw [HD.out]; decide), HG.out]
        simp only [HY.out]
        by_cases h : m < y.length
        · simp only [if_pos h]
        · simp only [if_neg h, if_true]
      by_cases hmy : m < y.length
      · have hne : (tx (y.drop m)).toList.isEmpty = false := by
          rw [tx_list]
          cases hc : y.drop m with
          | nil =>
            have := congrArg List.length hc
            rw [List.length_drop] at this
            simp at this; omega
          | cons _ _ => rfl
        rw [if_pos hmy] at hop
        have HOP := Lib.hid hop
        have hfs := rframes_any vo outs w2 HST.out (by rw [hfr, List.length_take]; have := HYL.out; omega)
        rw [hfr] at hfs
        have HFS := Lib.hid hfs
        obtain ⟨rest, hrest⟩ : ∃ t, tx (y.drop m) = t := ⟨_, rfl⟩
        rw [hrest] at hne ⊢
        have hml2 : (y.take m).length ≤ 99000 := by rw [List.length_take]; have := HYL.out; omega
        obtain ⟨X, hX⟩ : ∃ X, y.take m = X := ⟨_, rfl⟩
        rw [hX] at HFS HOP hml2
        have HML := Lib.hid hml2
        clear hr hfr hst hrk2 hend hop hrest ot b2 hml hfs hX hml2
        go_wp2_with fail
        refine HFS.out.mono ?_
        rintro e w3 ⟨rfl, b3⟩
        have HB3 := Lib.hid b3
        have hin := rinstall_S X w3 (HRK.out.mv (Mv.of_below (fp := fun _ => False) b3) (fun _ _ c => c)) (HFT.out.1.ok (by omega) (by omega) (by omega)) (by have := HFT.out.1.sum; have := HML.out; omega)
        have HIN := Lib.hid hin
        have HFT1 := Lib.hid (HFT.out.1.install nmLog X HFT.out.2)
        obtain ⟨tX, htX⟩ : ∃ t, tx X = t := ⟨_, rfl⟩
        rw [htX] at HIN ⊢
        rcases install_cases nmLog X p HD.out with ⟨-, k0, -⟩ | ⟨-, k0, -⟩
        · have HK := Lib.hid k0
          rw [k0] at HIN
          clear hin htX b3 k0
          go_wp2_with fail
          refine HIN.out.mono ?_
          rintro e w4 ⟨he, r4, m4⟩
          subst he
          have hsy := rsync_S w4 r4 (HFT1.out.ok (by omega) (by have := HML.out; omega) (by omega))
          have HSY := Lib.hid hsy
          have M4 := Lib.hid m4
          obtain ⟨c, hc⟩ : ∃ c, (syncP (installP p nmLog X).1 nmLog).2 = c := ⟨_, rfl⟩
          have hcc : c = 0 ∨ c = 21 := by
            rw [← hc]; unfold syncP
            split
            · exact .inr rfl
            · split
              · exact .inr rfl
              · exact .inl rfl
          rw [hc] at HSY
          have HCC := Lib.hid hc
          clear hsy r4 m4 HIN hc
          rcases hcc with rfl | rfl
          · go_wp2_with fail
            refine HSY.out.mono ?_
            rintro e w5 ⟨he, r5, m5⟩
            subst he
            have E := Lib.hid (HEND.out (syncP (installP p nmLog X).1 nmLog).1 0 w5 (by rw [HOP.out, if_pos HK.out]; exact Prod.ext rfl HCC.out) (((Mv.of_below HB3.out).trans (fq := G) M4.out (fun _ _ c => c)).trans (fq := orNew G w3) m5 (fun i hi c => c.elim id (fun c => absurd c (by have := HB3.out.size; omega)))) (r5.mono (fun i _ hi => hi.elim (fun hi => hi.elim .inl (fun c => .inr (Nat.le_trans B2.out.size (Nat.le_trans HB3.out.size c)))) (fun c => .inr (Nat.le_trans B2.out.size (Nat.le_trans HB3.out.size (Nat.le_trans M4.out.size c)))))))
            rw [if_pos rfl] at E
            clear r5 m5
            go_wp2_with fail
            go_ret2
            exact E.out
          · go_wp2_with fail
            refine HSY.out.mono ?_
            rintro e w5 ⟨he, r5, m5⟩
            subst he
            have E := Lib.hid (HEND.out (syncP (installP p nmLog X).1 nmLog).1 21 w5 (by rw [HOP.out, if_pos HK.out]; exact Prod.ext rfl HCC.out) (((Mv.of_below HB3.out).trans (fq := G) M4.out (fun _ _ c => c)).trans (fq := orNew G w3) m5 (fun i hi c => c.elim id (fun c => absurd c (by have := HB3.out.size; omega)))) (r5.mono (fun i _ hi => hi.elim (fun hi => hi.elim .inl (fun c => .inr (Nat.le_trans B2.out.size (Nat.le_trans HB3.out.size c)))) (fun c => .inr (Nat.le_trans B2.out.size (Nat.le_trans HB3.out.size (Nat.le_trans M4.out.size c)))))))
            rw [if_neg (by decide)] at E
            clear r5 m5
            go_wp2_with fail
            go_ret2
            exact E.out
        · have HK := Lib.hid k0
          rw [k0] at HIN
          clear hin htX b3 k0
          go_wp2_with fail
          refine HIN.out.mono ?_
          rintro e w4 ⟨he, r4, m4⟩
          subst he
          have E := Lib.hid (HEND.out (installP p nmLog X).1 21 w4 (by rw [HOP.out, if_neg (by rw [HK.out]; decide)]; exact Prod.ext rfl HK.out) ((Mv.of_below HB3.out).trans (fq := G) m4 (fun _ _ c => c)) (r4.mono (fun i _ hi => hi.elim .inl (fun c => .inr (Nat.le_trans B2.out.size (Nat.le_trans HB3.out.size c))))))
          rw [if_neg (by decide)] at E
          clear r4 m4 HIN
          go_wp2_with fail
          go_ret2
          exact E.out
      · have hne : (tx (y.drop m)).toList.isEmpty = true := by
          rw [tx_list, List.drop_eq_nil_of_le (by omega)]; rfl
        rw [if_neg hmy] at hop
        have HOP := Lib.hid hop
        obtain ⟨rest, hrest⟩ : ∃ t, tx (y.drop m) = t := ⟨_, rfl⟩
        rw [hrest] at hne ⊢
        have hsy := rsync_S w2 HRK.out (HFT.out.1.ok (by omega) (by omega) (by omega))
        have HSY := Lib.hid hsy
        obtain ⟨c, hc⟩ : ∃ c, (syncP p nmLog).2 = c := ⟨_, rfl⟩
        have hcc : c = 0 ∨ c = 21 := by
          rw [← hc]; unfold syncP
          split
          · exact .inr rfl
          · split
            · exact .inr rfl
            · exact .inl rfl
        rw [hc] at HSY
        have HCC := Lib.hid hc
        clear hr hfr hst hrk2 hend hop hrest ot b2 hml hsy hc
        rcases hcc with rfl | rfl
        · go_wp2_with fail
          refine HSY.out.mono ?_
          rintro e w5 ⟨he, r5, m5⟩
          subst he
          have E := Lib.hid (HEND.out (syncP p nmLog).1 0 w5 (by rw [HOP.out]; exact Prod.ext rfl HCC.out) m5 (r5.mono (fun i _ hi => hi.elim .inl (fun c => .inr (Nat.le_trans B2.out.size c)))))
          rw [if_pos rfl] at E
          clear r5 m5
          go_wp2_with fail
          go_ret2
          exact E.out
        · go_wp2_with fail
          refine HSY.out.mono ?_
          rintro e w5 ⟨he, r5, m5⟩
          subst he
          have E := Lib.hid (HEND.out (syncP p nmLog).1 21 w5 (by rw [HOP.out]; exact Prod.ext rfl HCC.out) m5 (r5.mono (fun i _ hi => hi.elim .inl (fun c => .inr (Nat.le_trans B2.out.size c)))))
          rw [if_neg (by decide)] at E
          clear r5 m5
          go_wp2_with fail
          go_ret2
          exact E.out
end Go.Proofs.YtldicnhpccionaaDoor
