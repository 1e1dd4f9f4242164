/-
The reference's splitting.
-/
import Derived.Test.YtldicnhpccionaaDoorRd
import Derived.Deep.RegionHeld3
namespace Go.Proofs.YtldicnhpccionaaDoor
open Go.RowKit
set_option linter.unusedVariables false
set_option linter.unusedSimpArgs false
theorem len4_beN {l : List UInt8} (h : l.length = 4) : len4 (beN l) = l := by
  obtain ⟨a, b, c, d, rfl⟩ : ∃ a b c d, l = [a, b, c, d] := by
    rcases l with _ | ⟨a, _ | ⟨b, _ | ⟨c, _ | ⟨d, _ | ⟨e, r⟩⟩⟩⟩⟩
    · cases h
    · cases h
    · cases h
    · cases h
    · exact ⟨a, b, c, d, rfl⟩
    · simp at h
  have ha := a.toNat_lt
  have hb := b.toNat_lt
  have hc := c.toNat_lt
  have hd := d.toNat_lt
  unfold len4 beN
  simp only [List.foldl_cons, List.foldl_nil]
  have e (k : Nat) (x : UInt8) (h : k % 256 = x.toNat) : UInt8.ofNat k = x := by
    apply UInt8.toNat_inj.1
    simp [h]
  rw [e _ a (by omega), e _ b (by omega), e _ c (by omega), e _ d (by omega)]
theorem nextR_frame {y : List UInt8} (h12 : 12 ≤ y.length) (hN : beN ((y.drop 8).take 4) ≤ y.length - 12) :
    (frameL ((y.drop 12).take (beN ((y.drop 8).take 4))) = y.take (12 + beN ((y.drop 8).take 4)) → nextR y = some ((y.drop 12).take (beN ((y.drop 8).take 4)))) ∧
    (frameL ((y.drop 12).take (beN ((y.drop 8).take 4))) ≠ y.take (12 + beN ((y.drop 8).take 4)) → nextR y = none) := by
  have hl4 : ((y.drop 8).take 4).length = 4 := by rw [List.length_take, List.length_drop]; omega
  have hb := len4_beN hl4
  obtain ⟨N, hN'⟩ : ∃ N, beN ((y.drop 8).take 4) = N := ⟨_, rfl⟩
  have hxl : ((y.drop 12).take N).length = N := by rw [List.length_take, List.length_drop]; omega
  have hT : textL ((y.drop 12).take N) = (y.drop 8).take (4 + N) := by
    unfold textL
    rw [hxl, ← hN', hb, List.take_add, List.drop_drop]
  have h8 : (y.take 8).length = 8 := by rw [List.length_take]; omega
  have hy : y.take (12 + N) = y.take 8 ++ (y.drop 8).take (4 + N) := by rw [show 12 + N = 8 + (4 + N) by omega, List.take_add]
  have hne : nextR y = if dig8 ((y.drop 8).take (4 + N)) = y.take 8 then some ((y.drop 12).take N) else none := by
    unfold nextR
    rw [if_neg (by omega), if_neg (by omega), hN']
  rw [hN', hne, hy]
  unfold frameL
  rw [hT]
  constructor
  · intro h
    exact if_pos (List.append_inj h (by rw [dig8_len, h8])).1
  · intro h
    exact if_neg fun c => h (by rw [c])
def strLen : Value → Nat
  | .string s => s.size
  | _ => 0
/-- what Split answers -/
def RSplitEnd (l : List UInt8) (w : World) (e : Ending) (w' : World) : Prop := ∃ vo outs m, e = .returned (.tuple #[vo, .string (tx (l.drop m))]) ∧ Recs l outs m ∧ OT w' w.heap.size vo (outs.map tx) ∧ Below w.heap.size w w'
/-- some records are found, the rest begins at a -/
structure RsR (l : List UInt8) (w0 : World) (vo : Value) (a : Nat) (wv : World) : Prop where
  le : a ≤ l.length
  recs : ∃ outs, OT wv w0.heap.size vo (outs.map tx) ∧ outs.length ≤ a ∧ ∀ o m, Recs (l.drop a) o m → Recs l (outs ++ o) (a + m)
  bel : Below w0.heap.size w0 wv
theorem RsR.next {l : List UInt8} {w : World} {vo vo' : Value} {a : Nat} {wv w' : World} {x : List UInt8} {outs : List (List UInt8)} (h : RsR l w vo a wv) (hn : nextR (l.drop a) = some x) (hr : ∀ o m, Recs (l.drop a) o m → Recs l (outs ++ o) (a + m)) (hlen : outs.length ≤ a) (ho : OT w' w.heap.size vo' ((outs ++ [x]).map tx)) (hb : Below w.heap.size w w') : RsR l w vo' (a + (12 + x.length)) w' := by
  have h1 := (nextR_some hn).2.2.1
  rw [List.length_drop] at h1
  have h2 := h.le
  refine ⟨by omega, ⟨outs ++ [x], ho, by rw [List.length_append, List.length_singleton]; omega, fun o m hm => ?_⟩, hb⟩
  rw [← List.drop_drop] at hm
  have h3 := hr _ _ (.some hn hm)
  rw [List.append_assoc]
  have e : a + (12 + x.length) + m = a + (12 + x.length + m) := by omega
  rw [e]
  exact h3
@[go_sem ↓] theorem ap_T_rs (ty : TypeId) (args : Array Value) : Builtin.append_ #[30, 30] ty args = apRow #[30, 30] ty args := rfl
theorem RsR.stop {l : List UInt8} {w : World} {vo : Value} {a : Nat} {wv w' : World} (h : RsR l w vo a wv) (hn : nextR (l.drop a) = none) (hb : Below wv.heap.size wv w') : RSplitEnd l w (.returned (.tuple #[vo, .string (tx (l.drop a))])) w' := by
  obtain ⟨outs, ho, -, hr⟩ := h.recs
  have := hr [] 0 (.none hn)
  exact ⟨vo, outs, a, rfl, by simpa using this, ho.below hb, h.bel.trans (hb.mono h.bel.size)⟩
set_option maxRecDepth 100000 in
set_option maxHeartbeats 1000000 in
theorem rsplit_any (l : List UInt8) (w : World) (hn : l.length ≤ 99000) : Calls Tryd.prog 16 #[.string (tx l)] w (RSplitEnd l w) := by
  have HL := Lib.hid hn
  have h0 : RsR l w (.slice none 0 0) 0 w := ⟨Nat.zero_le _, ⟨[], ot_nil _ _, Nat.le_refl _, fun o m h => by simpa using h⟩, Below.refl _ _⟩
  have H0 := Lib.hid h0
  clear hn h0
  go_enter Tryd.func16, Tryd.ntmps16
  go_wp2_with fail
  go_loopw [0, 4] (fun s t wr => ∃ a : Nat, s = .string (tx (l.drop a)) ∧ RsR l w t a wr) (fun s _ _ => strLen s)
  case atStart => exact ⟨0, by rw [List.drop_zero], H0.out⟩
  case round =>
    obtain ⟨a, rfl, hR⟩ := hrel
    have HR := Lib.hid hR
    have hle := hR.le
    clear hR
    obtain ⟨y, hy⟩ : ∃ y, l.drop a = y := ⟨_, rfl⟩
    have hyl : y.length = l.length - a := by rw [← hy, List.length_drop]
    have HY := Lib.hid hy
    rw [hy]
    clear hy
    obtain ⟨Y, hY⟩ : ∃ Y, y.length = Y := ⟨_, rfl⟩
    have hY2 : Y ≤ 99000 := by have := HL.out; omega
    have hY1 : (Y : Int) ≤ 99000 := by omega
    have hY0 : (0 : Int) ≤ Y := by omega
    have HYL := Lib.hid (And.intro hY hyl)
    have hsz : (tx y).size = Y := hY
    by_cases h12 : 12 ≤ Y
    · have h12i : (12 : Int) ≤ Y := by omega
      have hs8 : (tx y).extract 8 Y = tx (y.drop 8) := by rw [tx_part, ← hY, List.take_length]
      have ht := rdText_any (y.drop 8) Y wr.heap.size (wr.alloc (.cells #[.string (tx (y.drop 8)), .bool false] 82)) (heap_alloc_new _ _) (by rw [List.length_drop]; omega) (by rw [List.length_drop]; omega) (by rw [List.length_drop]; omega) (by omega)
      have HT := Lib.hid ht
      have hba := Lib.hid (alloc_below wr (.cells #[.string (tx (y.drop 8)), .bool false] 82))
      obtain ⟨s, hs⟩ : ∃ s, tx y = s := ⟨_, rfl⟩
      obtain ⟨s8, hs8'⟩ : ∃ s, tx (y.drop 8) = s := ⟨_, rfl⟩
      rw [hs] at hs8 hsz ⊢
      rw [hs8'] at hs8 HT hba
      have HS := Lib.hid hs
      clear ht hs hyl hY hs8' hle
      go_wp2_with fail
      refine HT.out.mono ?_
      rintro e w2 ⟨m2, hcase⟩
      have hb2 := Lib.hid (hba.out.trans (m2.below hba.out.size (fun i hi => by rw [hi]; exact Nat.le_refl _)))
      have hlt2 : wr.heap.size < w2.heap.size := by have := m2.size; simp at this; omega
      clear m2
      rcases hcase with ⟨hN, rfl, r, hrd⟩ | ⟨hN, rfl, r, hrd⟩
      · have hyY := HYL.out.1
        have hN2 : beN ((y.drop 8).take 4) ≤ y.length - 12 := by rw [List.length_drop] at hN; omega
        obtain ⟨n1, n2⟩ := nextR_frame (by omega) hN2
        have hxe : (List.drop 4 (List.drop 8 y)) = y.drop 12 := by rw [List.drop_drop]
        rw [hxe]
        obtain ⟨N, hNN⟩ : ∃ N, beN ((y.drop 8).take 4) = N := ⟨_, rfl⟩
        rw [hNN] at n1 n2 hN2 ⊢
        have hxl : ((y.drop 12).take N).length = N := by rw [List.length_take, List.length_drop]; omega
        obtain ⟨x, hx⟩ : ∃ x, (y.drop 12).take N = x := ⟨_, rfl⟩
        rw [hx] at n1 n2 hxl ⊢
        rw [← HY.out] at n1 n2
        have hgood : ∀ w', Below w2.heap.size w2 w' → Calls Tryd.prog 42 #[.pointer (some ⟨wr.heap.size, 0, none⟩)] w' fun e w3 => e = .returned (.bool true) ∧ Below w2.heap.size w2 w3 := fun w' hb => (good_any r false wr.heap.size w' ((hb.block _ hlt2).trans hrd)).mono fun e w3 h => ⟨h.1, h.2 ▸ hb⟩
        have hframe : ∀ w', Below w2.heap.size w2 w' → Calls Tryd.prog 12 #[.string (tx x)] w' fun e w3 => e = .returned (.string (tx (frameL x))) ∧ Below w2.heap.size w2 w3 := fun w' hb => (rframe_any x w' (by omega)).mono fun e w3 h => ⟨h.1, hb.trans (h.2.mono hb.size)⟩
        have hcase : ((tx (frameL x)).toList == (tx (y.take (12 + N))).toList) = true ∧ nextR (l.drop a) = some x ∨ ((tx (frameL x)).toList == (tx (y.take (12 + N))).toList) = false ∧ nextR (l.drop a) = none := by
          rw [tx_list, tx_list]
          rw [HY.out] at n1 n2 ⊢
          by_cases c : frameL x = y.take (12 + N)
          · exact .inl ⟨by rw [c, beq_iff_eq], n1 c⟩
          · exact .inr ⟨beq_eq_false_iff_ne.2 c, n2 c⟩
        have hsl1 : s.extract 0 (12 + N) = tx (y.take (12 + N)) := by rw [← HS.out, tx_part, List.drop_zero]
        have hsl2 : s.extract (12 + N) Y = tx (y.drop (12 + N)) := by rw [← HS.out, tx_part, ← hyY, List.take_length]
        have hsx : (tx x).size = N := hxl
        have hs3 : (tx (y.drop (12 + N))).size = Y - (12 + N) := by rw [tx_size, List.length_drop, hyY]
        have hnx : tx (y.drop (12 + N)) = tx (l.drop (a + (12 + N))) := by rw [← HY.out, List.drop_drop]
        have hN3 : 12 + N ≤ Y := by omega
        have hN4 : (12 : Int) + N ≤ Y := by omega
        have hN7 : (0 : Int) ≤ 12 + N := by omega
        have hN9 : IntKind.i64.wrap ((12 : Int) + N) = 12 + N := IntWalk.i64_in _ (by omega)
        have hN8 : ((12 : Int) + N).toNat = 12 + N := by omega
        have hN5 : (0 : Int) ≤ N := by omega
        have hN6 : (N : Int) ≤ 99000 := by omega
        obtain ⟨outs, ho, hol, hor⟩ := HR.out.recs
        have hla : outs.length ≤ 100000 := by have := HR.out.le; have := HL.out; omega
        obtain ⟨Aa, ca, rfl⟩ := ot_shape ho rfl
        obtain ⟨sx, hsx'⟩ : ∃ s, tx x = s := ⟨_, rfl⟩
        obtain ⟨sf, hsf⟩ : ∃ s, tx (frameL x) = s := ⟨_, rfl⟩
        obtain ⟨sT, hsT⟩ : ∃ s, tx (y.take (12 + N)) = s := ⟨_, rfl⟩
        obtain ⟨s3, hs3'⟩ : ∃ s, tx (y.drop (12 + N)) = s := ⟨_, rfl⟩
        rw [hsx'] at hframe hsx ⊢
        rw [hsf] at hframe hcase
        rw [hsT] at hcase hsl1
        rw [hs3'] at hsl2 hs3 hnx
        have HSX := Lib.hid hsx'
        have HXL := Lib.hid hxl
        have HNX := Lib.hid hnx
        have HOO := Lib.hid (And.intro ho (And.intro hol (And.intro hor hla)))
        have hbr : Below w2.heap.size w2 w2.drew := (Below.refl _ _).drew
        rw [List.length_map]
        obtain ⟨la, hla'⟩ : ∃ k, outs.length = k := ⟨_, rfl⟩
        have HLA := Lib.hid hla'
        rw [hla']
        have HCASE := Lib.hid hcase
        clear hN hN2 hxe hNN hx hxl n1 n2 hrd ho hol hor hla hsx' hsf hsT hs3' hnx hcase hla' HT hyY
        rcases HCASE.out with ⟨he, hnext⟩ | ⟨he, hnext⟩
        · have he3 : (!(sf.toList == sT.toList)) = false := by rw [he]; rfl
          have HNEXT := Lib.hid hnext
          clear hnext he
          go_wp2_with fail
          go_region_held3 (fun w' => Below w2.heap.size w2 w') (assumption) (first | (go_at_call 42; refine (hgood _ (by assumption)).mono ?_; rintro e w3 ⟨rfl, hb3⟩) | (go_at_call 12; refine (hframe _ (by assumption)).mono ?_; rintro e w4 ⟨rfl, hb4⟩))
          have hb24 := Lib.hid (hb2.out.trans (hb4.mono hb2.out.size))
          have o4 := HOO.out.1.below hb24.out
          have hBw : w.heap.size ≤ w4.heap.size := Nat.le_trans HR.out.bel.size hb24.out.size
          obtain ⟨v', w5, r5, o5, b5⟩ := ot_push 30 o4 sx (by rw [List.length_map]; exact HOO.out.2.2.2) hBw
          rw [List.length_map, HLA.out] at r5
          have E := Lib.hid (HR.out.next (vo' := v') (w' := w5) HNEXT.out HOO.out.2.2.1 HOO.out.2.1 (by rw [List.map_append]; rw [← HSX.out] at o5; exact o5) ((HR.out.bel.trans (hb24.out.mono HR.out.bel.size)).trans b5))
          rw [HXL.out] at E
          clear o4 hBw o5 b5 hb4
          go_wp2_with fail
          go_roundw
          case rel => exact ⟨a + (12 + N), by rw [HNX.out], E.out⟩
          case measure => simp [strLen]; omega
        · have he3 : (!(sf.toList == sT.toList)) = true := by rw [he]; rfl
          have HNEXT := Lib.hid hnext
          clear hnext he
          go_wp2_with fail
          go_region_held3 (fun w' => Below w2.heap.size w2 w') (assumption) (first | (go_at_call 42; refine (hgood _ (by assumption)).mono ?_; rintro e w3 ⟨rfl, hb3⟩) | (go_at_call 12; refine (hframe _ (by assumption)).mono ?_; rintro e w4 ⟨rfl, hb4⟩))
          have E := Lib.hid (HR.out.stop HNEXT.out (hb2.out.trans (hb4.mono hb2.out.size)))
          rw [HY.out, HS.out, List.length_map, HLA.out] at E
          clear hb4
          go_wp2_with fail
          go_ret2
          exact E.out
      · have q1 := Lib.hid (fun n => Calls.quiet_of_same (w := w2) (n := n) ((good_any r true wr.heap.size (w2.drewN n) (((below_drewN (Below.refl w2.heap.size w2) n).block _ hlt2).trans hrd)).mono fun _ _ hh => ⟨hh.1, hh.2.symm⟩))
        have hnone : nextR (l.drop a) = none := by
          rw [HY.out]
          have h1 := HYL.out.1
          rw [List.length_drop] at hN
          unfold nextR
          rw [if_neg (by omega), if_pos (by omega)]
        have HB2 := Lib.hid hnone
        have hbr : Below w2.heap.size w2 w2.drew := (Below.refl _ _).drew
        obtain ⟨se, hse⟩ : ∃ s, tx [] = s := ⟨_, rfl⟩
        rw [hse]
        clear hN hrd hnone HT hse
        go_wp2_with fail
        go_quiet ((go_at_call 42; exact q1.out _))
        have E := Lib.hid (HR.out.stop HB2.out (hb2.out.trans ((below_drewN (Below.refl w2.heap.size w2) nq).mono hb2.out.size)))
        rw [HY.out, HS.out] at E
        go_wp2_with fail
        go_ret2
        exact E.out
    · have h12i : ¬ (12 : Int) ≤ Y := by omega
      have hnone : nextR (l.drop a) = none := by
        rw [HY.out]
        unfold nextR
        rw [if_pos (by omega)]
      have E := Lib.hid (HR.out.stop hnone (Below.refl _ _))
      rw [HY.out] at E
      obtain ⟨s, hs⟩ : ∃ s, tx y = s := ⟨_, rfl⟩
      rw [hs] at hsz E ⊢
      clear hs hyl hY hle hnone
      go_wp2_with fail
      go_ret2
      exact E.out
end Go.Proofs.YtldicnhpccionaaDoor
