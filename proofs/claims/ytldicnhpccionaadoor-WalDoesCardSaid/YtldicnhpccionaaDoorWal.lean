/-
Opening a log.
-/
import Derived.Test.YtldicnhpccionaaDoorFit
namespace Go.Proofs.YtldicnhpccionaaDoor
open Go.RowKit
set_option linter.unusedVariables false
set_option linter.unusedSimpArgs false
/-- what is done at an opening, if the file's records have m bytes -/
def openP (p : PD) (nm : ByteArray) (m : Nat) : PD × Int :=
  if p.down then (p, 21) else
    match getC nm p.cs with
    | none => (p, 0)
    | some x =>
      let r := if m < (x.1 ++ x.2).length then installP p nm ((x.1 ++ x.2).take m) else (p, 0)
      if r.2 = 0 then syncP r.1 nm else r
/-- the records of a file -/
def FileRecs (nm : ByteArray) (cs : Con) (outs : List (List UInt8)) (m : Nat) : Prop :=
  (getC nm cs = none ∧ outs = []) ∨ ∃ x, getC nm cs = some x ∧ Recs (x.1 ++ x.2) outs m
theorem fileRecs_ex (nm : ByteArray) (cs : Con) : ∃ outs m, FileRecs nm cs outs m := by
  cases h : getC nm cs with
  | none => exact ⟨[], 0, .inl ⟨h, rfl⟩⟩
  | some x => obtain ⟨o, m, hr⟩ := Recs.ex (x.1 ++ x.2); exact ⟨o, m, .inr ⟨x, h, hr⟩⟩
/-- what Open answers -/
def OpenEnd (B db : Nat) (F : Nat → Prop) (p : PD) (nm : ByteArray) (w : World) (e : Ending) (w' : World) : Prop :=
  ∃ outs m F', FileRecs nm p.cs outs m ∧ DkS B db F' (openP p nm m).1 w' ∧ (∀ i, F' i → orNew F w i) ∧ Mv F w w' ∧
    (((openP p nm m).2 = 0 ∧ ∃ lb vo, e = .returned (.tuple #[.pointer (some ⟨lb, 0, none⟩), vo, .int .i64 0]) ∧ LogAt w' lb db nm ∧ ¬ F' lb ∧ w.heap.size ≤ lb ∧ Lst (fun i => ¬ F' i ∧ w.heap.size ≤ i) w' vo outs) ∨
     ((openP p nm m).2 = 21 ∧ e = .returned (.tuple #[.pointer none, .slice none 0 0, .int .i64 21])))
theorem lst_nil (P : Nat → Prop) (w : World) : Lst P w (.slice none 0 0) [] := ⟨⟨none, 0, rfl, Nat.le_refl _, fun h => absurd h (by simp)⟩⟩
/-- the log is made -/
theorem open_end {B db : Nat} {F F2 : Nat → Prop} {p p2 : PD} {nm : ByteArray} {w w2 : World} {m : Nat} {outs : List (List UInt8)} {vo : Value} (hr : FileRecs nm p.cs outs m) (d : DkS B db F2 p2 w2) (hp : openP p nm m = (p2, 0)) (hF : ∀ i, F2 i → orNew F w i) (hm : Mv F w w2)
    (hl : Lst (fun i => ¬ F2 i ∧ w.heap.size ≤ i) w2 vo outs) :
    OpenEnd B db F p nm w (.returned (.tuple #[.pointer (some ⟨w2.heap.size, 0, none⟩), vo, .int .i64 0])) (w2.alloc (.cells #[.pointer (some ⟨db, 0, none⟩), .string nm] 77)) := by
  have ba := alloc_below w2 (.cells #[.pointer (some ⟨db, 0, none⟩), .string nm] 77)
  refine ⟨outs, m, fun i => F2 i ∧ i < w2.heap.size, hr, by rw [hp]; exact d.tight.below ba, fun i h => hF i h.1, hm.trans (Mv.of_below (fp := fun _ => False) ba) (fun _ _ c => c.elim), .inl ⟨by rw [hp], _, _, rfl, ⟨?_, ?_⟩, fun c => by have := c.2; omega, hm.size, ?_⟩⟩
  · rw [World.cell?_alloc_at _ _ _ _ rfl]; rfl
  · rw [World.cell?_alloc_at _ _ _ _ rfl]; rfl
  · exact hl.mv (Mv.of_below (fp := fun _ => False) ba) (fun i _ h => ⟨fun c => c, fun c => h.1 c.1, h.2⟩)
set_option maxRecDepth 100000 in
set_option maxHeartbeats 1000000 in
theorem open_any {B db : Nat} {F : Nat → Prop} {p : PD} {a s l : Nat} (nm : ByteArray) (w : World) (h : DkS B db F p w) (ft : p.fit a s l) (ha : a ≤ 10000) (hs : s ≤ 100000) (hl : l ≤ 10000) (hnm : nm.size ≤ 1000000) (htab : Tab w) (hw0 : 0 < w.heap.size) :
    Calls Tryd.prog 15 #[.pointer (some ⟨db, 0, none⟩), .string nm] w (OpenEnd B db F p nm w) := by
  have ok := ft.ok (by omega) (by omega) (by omega)
  have hrd := Lib.hid (read_S nm w h ok hnm)
  have HD := Lib.hid h
  have FT := Lib.hid ft
  have HT := Lib.hid htab
  clear h ft htab ok
  go_enter Tryd.func15, Tryd.ntmps15
  go_wp2_with fail
  refine hrd.out.mono ?_
  rintro e w1 ⟨hb1, ⟨hd, rfl⟩ | ⟨hd, hg, rfl⟩ | ⟨hd, x, v, hg, rfl, ho⟩⟩
  · go_wp2_with fail
    go_ret3
    obtain ⟨outs, m, hr⟩ := fileRecs_ex nm p.cs
    have e1 : openP p nm m = (p, 21) := by unfold openP; rw [if_pos hd]
    exact ⟨outs, m, F, hr, by rw [e1]; exact HD.out.below hb1, fun i h => .inl h, Mv.of_below hb1, .inr ⟨by rw [e1], rfl⟩⟩
  · go_wp2_with fail
    go_ret3
    have e1 : openP p nm 0 = (p, 0) := by unfold openP; rw [if_neg (by rw [hd]; decide), hg]
    exact open_end (.inl ⟨hg, rfl⟩) (HD.out.below hb1) e1 (fun i h => .inl h) (Mv.of_below hb1) (lst_nil _ _)
  · obtain ⟨n, hn⟩ : ∃ n, (x.1 ++ x.2).length = n := ⟨_, rfl⟩
    obtain ⟨A, cap, rfl, hcap⟩ := ob_shape ho hn
    have hxs : lenP x = n := by rw [← hn, List.length_append]; rfl
    have hns : n ≤ 100000 := by have h1 := sumC_le_of_get hg; have h2 := FT.out.sum; omega
    have hb := ho.bl hn
    have hends := ob_ends ho hn
    have hsp := Lib.hid (split_any A n cap (x.1 ++ x.2) w1 hb hn hcap hns (HT.out.below hb1 hw0) (Nat.lt_of_lt_of_le hw0 hb1.size))
    have D1 := Lib.hid (HD.out.tight.below hb1)
    have HO := Lib.hid ho
    have HBL := Lib.hid hb
    have HB1 := Lib.hid hb1
    have HE := Lib.hid hends
    have HN := Lib.hid hn
    have HX := Lib.hid hxs
    have HCAP := Lib.hid hcap
    have HNS := Lib.hid hns
    have HG := Lib.hid (And.intro hd hg)
    clear ho hb hb1 hends hn hxs hcap hns hd hg
    go_wp2_with fail
    refine hsp.out.mono ?_
    rintro e w2 ⟨vo, outs, m, rfl, hrec, hout, hb2⟩
    have hmn : m ≤ n := by have := hrec.len; rw [HN.out] at this; exact this
    have D2 := Lib.hid (D1.out.below hb2)
    have HB2 := Lib.hid hb2
    have HR := Lib.hid (show FileRecs nm p.cs outs m from .inr ⟨x, HG.out.2, hrec⟩)
    have HLS := Lib.hid hout.lst
    have hopen : openP p nm m = (let r := if m < n then installP p nm ((x.1 ++ x.2).take m) else (p, 0); if r.2 = 0 then syncP r.1 nm else r) := by
      unfold openP
      rw [if_neg (by rw [HG.out.1]; decide), HG.out.2]
      simp only [HN.out]
    have HOP := Lib.hid hopen
    clear hrec hout hb2 hopen
    by_cases hlt : m < n
    · have gi : (m : Int) < n := by omega
      have gi0 : (0 : Int) ≤ m := by omega
      have hsl := fun w' => slice_part (w := w1) (w' := w') (n := m) (B := w.heap.size) (cap := cap) (A := A) (l := x.1 ++ x.2) (by rw [HN.out]; exact HO.out) (by rw [HN.out]; omega) (by rw [HN.out]; exact HCAP.out) (z := m) rfl
      rw [HN.out] at hsl
      have htl : ((x.1 ++ x.2).take m).length = m := by rw [List.length_take, HN.out]; omega
      have hbt : BL w2 A ((x.1 ++ x.2).take m) := ⟨fun h0 => by
        obtain ⟨b, o, hA, hlb, hc⟩ := (HBL.out.below HB2.out).mem (by rw [HN.out]; omega)
        refine ⟨b, o, hA, hlb, fun j u hu => hc j u ?_⟩
        unfold bcs at hu ⊢
        rw [List.getElem?_map, List.getElem?_take] at hu
        rw [List.getElem?_map]
        split at hu
        · exact hu
        · cases hu⟩
      have hin := Lib.hid (install_any nm A m cap ((x.1 ++ x.2).take m) w2 D2.out (FT.out.ok (by omega) (by omega) (by omega)) hnm hbt htl (fun e => ⟨(HE.out.1 e).1, by rw [(HE.out.1 e).2, List.take_nil]⟩) (fun g o e _ c => by have := (HE.out.2 g o e).1; have := c.2; omega) (by have := FT.out.sum; have := HNS.out; omega))
      have hft := Lib.hid (FT.out.install_le nm ((x.1 ++ x.2).take m) HD.out.nd HG.out.2 (by rw [htl, HX.out]; exact hmn))
      have hcd := codes_ins p nm ((x.1 ++ x.2).take m)
      generalize hIP : installP p nm ((x.1 ++ x.2).take m) = r at hin hft hcd
      have HIP := Lib.hid hIP
      clear hbt htl hIP
      obtain ⟨p3, c3⟩ := r
      simp only at hcd
      go_wp2_with fail
      refine hin.out.mono ?_
      rintro e w3 ⟨rfl, d3, m3⟩
      rcases hcd with rfl | rfl
      · have hsy := Lib.hid (sync_any nm w3 d3 (hft.out.ok (by omega) (by omega) (by omega)) hnm)
        have D3 := Lib.hid d3
        have M3 := Lib.hid m3
        clear d3 m3
        have hcd2 := codes_sync p3 nm
        generalize hSP : syncP p3 nm = r at hsy hcd2
        have HSP := Lib.hid hSP
        clear hSP
        obtain ⟨p4, c4⟩ := r
        simp only at hcd2
        go_wp2_with fail
        refine hsy.out.mono ?_
        rintro e w4 ⟨rfl, d4, m4⟩
        have mm : Mv (fun i => F i ∧ i < w.heap.size) w2 w4 := M3.out.trans m4 (fun i hi h => by rcases h with h | h; exact h; omega)
        have mF : Mv F w w4 := ((Mv.of_below (fp := F) HB1.out).trans (Mv.of_below (fp := fun _ => False) HB2.out) (fun _ _ c => c.elim)).trans mm (fun i _ h => h.1)
        have hin4 : ∀ i, orNew (orNew (fun i => F i ∧ i < w.heap.size) w2) w3 i → (F i ∧ i < w.heap.size) ∨ w2.heap.size ≤ i := fun i hi => by
          have h1 := HB1.out.size; have h2 := HB2.out.size; have h3 := M3.out.size
          rcases hi with (hi | hi) | hi
          · exact .inl hi
          · exact .inr hi
          · right; omega
        have hF4 : ∀ i, orNew (orNew (fun i => F i ∧ i < w.heap.size) w2) w3 i → orNew F w i := fun i hi => by
          have h1 := HB1.out.size; have h2 := HB2.out.size; have h3 := M3.out.size
          rcases hin4 i hi with h | h
          · exact .inl h.1
          · right; omega
        rcases hcd2 with rfl | rfl
        · have hlst : Lst (fun i => ¬ (orNew (orNew (fun i => F i ∧ i < w.heap.size) w2) w3) i ∧ w.heap.size ≤ i) w4 vo outs := HLS.out.mv mm (fun i hi h => by
            have h1 := HB1.out.size
            refine ⟨fun c => by have := c.2; omega, fun c => ?_, by omega⟩
            rcases hin4 i c with c | c
            · have := c.2; omega
            · omega)
          have e1 : openP p nm m = (p4, 0) := by rw [HOP.out]; simp only [if_pos hlt, HIP.out, HSP.out]; exact if_pos trivial
          have E := Lib.hid (open_end HR.out d4 e1 hF4 mF hlst)
          clear mm mF hin4 hF4 d4 m4 hlst e1
          go_wp2_with fail
          go_ret3
          exact E.out
        · have e1 : openP p nm m = (p4, 21) := by rw [HOP.out]; simp only [if_pos hlt, HIP.out, HSP.out]; exact if_pos trivial
          have E := Lib.hid (show OpenEnd B db F p nm w (.returned (.tuple #[.pointer none, .slice none 0 0, .int .i64 21])) w4 from ⟨outs, m, _, HR.out, by rw [e1]; exact d4, hF4, mF, .inr ⟨by rw [e1], rfl⟩⟩)
          clear mm mF hin4 hF4 d4 m4 e1
          go_wp2_with fail
          go_ret3
          exact E.out
      · go_wp2_with fail
        go_ret3
        have e1 : openP p nm m = (p3, 21) := by rw [HOP.out]; simp only [if_pos hlt, HIP.out]; exact if_neg (by decide)
        refine ⟨outs, m, orNew (fun i => F i ∧ i < w.heap.size) w2, HR.out, by rw [e1]; exact d3, fun i hi => ?_, ?_, .inr ⟨by rw [e1], rfl⟩⟩
        · rcases hi with hi | hi
          · exact .inl hi.1
          · right; exact Nat.le_trans (Nat.le_trans HB1.out.size HB2.out.size) hi
        · exact ((Mv.of_below (fp := F) HB1.out).trans (Mv.of_below (fp := fun _ => False) HB2.out) (fun _ _ c => c.elim)).trans m3 (fun i _ h => h.1)
    · have gi : ¬ (m : Int) < n := by omega
      have hsy := Lib.hid (sync_any nm w2 D2.out (FT.out.ok (by omega) (by omega) (by omega)) hnm)
      have hcd2 := codes_sync p nm
      generalize hSP : syncP p nm = r at hsy hcd2
      have HSP := Lib.hid hSP
      clear hSP
      obtain ⟨p4, c4⟩ := r
      simp only at hcd2
      go_wp2_with fail
      refine hsy.out.mono ?_
      rintro e w4 ⟨rfl, d4, m4⟩
      have mm : Mv (fun i => F i ∧ i < w.heap.size) w2 w4 := m4
      have mF : Mv F w w4 := ((Mv.of_below (fp := F) HB1.out).trans (Mv.of_below (fp := fun _ => False) HB2.out) (fun _ _ c => c.elim)).trans mm (fun i _ h => h.1)
      have hin4 : ∀ i, orNew (fun i => F i ∧ i < w.heap.size) w2 i → (F i ∧ i < w.heap.size) ∨ w2.heap.size ≤ i := fun i hi => by
        rcases hi with hi | hi
        · exact .inl hi
        · exact .inr hi
      have hF4 : ∀ i, orNew (fun i => F i ∧ i < w.heap.size) w2 i → orNew F w i := fun i hi => by
        have h1 := HB1.out.size; have h2 := HB2.out.size
        rcases hin4 i hi with h | h
        · exact .inl h.1
        · right; omega
      rcases hcd2 with rfl | rfl
      · have hlst : Lst (fun i => ¬ (orNew (fun i => F i ∧ i < w.heap.size) w2) i ∧ w.heap.size ≤ i) w4 vo outs := HLS.out.mv mm (fun i hi h => by
          have h1 := HB1.out.size
          refine ⟨fun c => by have := c.2; omega, fun c => ?_, by omega⟩
          rcases hin4 i c with c | c
          · have := c.2; omega
          · omega)
        have e1 : openP p nm m = (p4, 0) := by rw [HOP.out]; simp only [if_neg hlt, HSP.out]; exact if_pos trivial
        have E := Lib.hid (open_end HR.out d4 e1 hF4 mF hlst)
        clear mm mF hin4 hF4 d4 m4 hlst e1
        go_wp2_with fail
        go_ret3
        exact E.out
      · have e1 : openP p nm m = (p4, 21) := by rw [HOP.out]; simp only [if_neg hlt, HSP.out]; exact if_pos trivial
        have E := Lib.hid (show OpenEnd B db F p nm w (.returned (.tuple #[.pointer none, .slice none 0 0, .int .i64 21])) w4 from ⟨outs, m, _, HR.out, by rw [e1]; exact d4, hF4, mF, .inr ⟨by rw [e1], rfl⟩⟩)
        clear mm mF hin4 hF4 d4 m4 e1
        go_wp2_with fail
        go_ret3
        exact E.out
end Go.Proofs.YtldicnhpccionaaDoor
