/-
The reference's reader.
-/
import Derived.Test.YtldicnhpccionaaDoorMany
namespace Go.Proofs.YtldicnhpccionaaDoor
open Go.RowKit
set_option linter.unusedVariables false
set_option linter.unusedSimpArgs false
/-- a reader: what is left, whether something was wrong -/
def Rd (w : World) (rb : Nat) (l : List UInt8) (b : Bool) : Prop := w.heap[rb]? = some (.cells #[.string (tx l), .bool b] 82 (0, 0))
theorem Rd.mv {w w' : World} {rb : Nat} {l : List UInt8} {b : Bool} {fp : Nat → Prop} (h : Rd w rb l b) (m : Mv fp w w') (hf : ¬ fp rb) : Rd w' rb l b :=
  (m.block rb (Array.getElem?_eq_some_iff.1 h).1 hf).trans h
set_option maxRecDepth 100000 in
theorem take_ok (l : List UInt8) (n rb : Nat) (w : World) (h : Rd w rb l false) (hn : n ≤ l.length) (hl : l.length ≤ 100000) :
    Calls Tryd.prog 52 #[.pointer (some ⟨rb, 0, none⟩), .int .i64 n] w fun e w' => e = .returned (.string (tx (l.take n))) ∧ Rd w' rb (l.drop n) false ∧ Mv (· = rb) w w' := by
  have c0 : w.cell? ⟨rb, 0, none⟩ = some (.string (tx l)) := cell_at h rfl
  have c1 : w.cell? ⟨rb, 1, none⟩ = some (.bool false) := cell_at h rfl
  have z0 : w.frozen? ⟨rb, 0, none⟩ = false := frozen_at h
  have m0 : ∀ v, Mv (· = rb) w (w.setCell ⟨rb, 0, none⟩ v) := fun v => Mv.setCell w ⟨rb, 0, none⟩ v rfl
  have h1 : ∀ x, Rd (w.setCell ⟨rb, 0, none⟩ (.string (tx x))) rb x false := fun x => setCell_at (i := 0) h _
  have e1 : (tx l).extract 0 n = tx (l.take n) := by rw [tx_part, List.drop_zero]
  have e2 : (tx l).extract n l.length = tx (l.drop n) := by rw [tx_part, List.take_length]
  have hsz : (tx l).size = l.length := rfl
  obtain ⟨m, hm⟩ : ∃ m, l.length = m := ⟨_, rfl⟩
  obtain ⟨s1, hs1⟩ : ∃ s, tx (l.take n) = s := ⟨_, rfl⟩
  obtain ⟨s2, hs2⟩ : ∃ s, tx (l.drop n) = s := ⟨_, rfl⟩
  have H1 := Lib.hid (And.intro (h1 (l.drop n)) (m0 (.string (tx (l.drop n)))))
  rw [hs2] at e2 H1
  rw [hs1] at e1
  rw [hs1]
  rw [hm] at hsz e2
  generalize tx l = s at c0 e1 e2 hsz
  have hn0 : (0 : Int) ≤ n := by omega
  have hn1 : (n : Int) ≤ m := by omega
  have hm1 : (m : Int) ≤ 100000 := by omega
  clear h h1 m0 hl hn hm
  go_enter Tryd.func52, Tryd.ntmps52
  go_wp2_with fail
  go_ret
  exact ⟨rfl, H1.out⟩
set_option maxRecDepth 100000 in
theorem take_bad (l : List UInt8) (n : Int) (rb : Nat) (w : World) (h : Rd w rb l false) (hn : n < 0 ∨ (l.length : Int) < n) (hl : l.length ≤ 100000) :
    Calls Tryd.prog 52 #[.pointer (some ⟨rb, 0, none⟩), .int .i64 n] w fun e w' => e = .returned (.string (tx [])) ∧ Rd w' rb [] true ∧ Mv (· = rb) w w' := by
  have c0 : w.cell? ⟨rb, 0, none⟩ = some (.string (tx l)) := cell_at h rfl
  have c1 : w.cell? ⟨rb, 1, none⟩ = some (.bool false) := cell_at h rfl
  have z0 : w.frozen? ⟨rb, 0, none⟩ = false := frozen_at h
  have z1 : w.frozen? ⟨rb, 1, none⟩ = false := frozen_at h
  have m0 : Mv (· = rb) w ((w.setCell ⟨rb, 1, none⟩ (.bool true)).setCell ⟨rb, 0, none⟩ (.string (tx []))) := (Mv.setCell (fp := (· = rb)) w ⟨rb, 1, none⟩ _ rfl).trans (fq := (· = rb)) (Mv.setCell _ ⟨rb, 0, none⟩ _ rfl) (fun _ _ c => c)
  have h1 : Rd ((w.setCell ⟨rb, 1, none⟩ (.bool true)).setCell ⟨rb, 0, none⟩ (.string (tx []))) rb [] true := setCell_at (i := 0) (setCell_at (i := 1) h (.bool true)) _
  have H1 := Lib.hid (And.intro h1 m0)
  have hsz : (tx l).size = l.length := rfl
  obtain ⟨m, hm⟩ : ∃ m, l.length = m := ⟨_, rfl⟩
  rw [hm] at hsz hn
  generalize tx l = s at c0 hsz
  have hm1 : (m : Int) ≤ 100000 := by omega
  have hd : (decide (n < 0) || decide ((m : Int) < n)) = true := by simpa using hn
  clear h h1 m0 hl hm
  go_enter Tryd.func52, Tryd.ntmps52
  go_wp2_with fail
  all_goals
    go_ret
    exact ⟨rfl, H1.out⟩
set_option maxRecDepth 100000 in
theorem good_any (l : List UInt8) (b : Bool) (rb : Nat) (w : World) (h : Rd w rb l b) :
    Calls Tryd.prog 42 #[.pointer (some ⟨rb, 0, none⟩)] w fun e w' => e = .returned (.bool (!b)) ∧ w = w' := by
  have c1 : w.cell? ⟨rb, 1, none⟩ = some (.bool b) := cell_at h rfl
  clear h
  go_enter Tryd.func42, Tryd.ntmps42
  go_wp2_with fail
  go_ret
  exact ⟨rfl, rfl⟩
theorem tx_get {l : List UInt8} {j : Nat} (h : j < l.length) : (tx l)[j]? = some (l.getD j 0) := by
  have h1 : (tx l)[j]? = some ((tx l)[j]'h) := getElem?_pos (tx l) j h
  rw [h1, List.getD_eq_getElem?_getD, List.getElem?_eq_getElem h]
  rfl
/-- what Text answers -/
def RdText (l : List UInt8) (rb : Nat) (w : World) (e : Ending) (w' : World) : Prop :=
  Mv (· = rb) w w' ∧ ((beN (l.take 4) ≤ l.length - 4 ∧ e = .returned (.string (tx ((l.drop 4).take (beN (l.take 4))))) ∧ ∃ r, Rd w' rb r false) ∨
    (l.length - 4 < beN (l.take 4) ∧ e = .returned (.string (tx [])) ∧ ∃ r, Rd w' rb r true))
set_option maxRecDepth 100000 in
theorem rdText_any (l : List UInt8) (most : Nat) (rb : Nat) (w : World) (h : Rd w rb l false) (h4 : 4 ≤ l.length) (hl : l.length ≤ 100000) (hm : l.length ≤ most) (hm2 : most ≤ 200000) :
    Calls Tryd.prog 41 #[.pointer (some ⟨rb, 0, none⟩), .int .i64 most] w (RdText l rb w) := by
  have ht := Lib.hid (take_ok l 4 rb w h h4 hl)
  have hl4 : (l.take 4).length = 4 := by rw [List.length_take]; omega
  have hlt := beN_lt (l.take 4)
  have hsz : (tx (l.take 4)).size = 4 := hl4
  have HL := Lib.hid (And.intro h4 (And.intro hl hm))
  clear h h4 hl hm
  go_enter Tryd.func41, Tryd.ntmps41
  go_wp2_with fail
  refine ht.out.mono ?_
  rintro e w1 ⟨rfl, h1, m1⟩
  have H1 := Lib.hid (And.intro h1 m1)
  clear h1 m1 ht
  obtain ⟨l4, hl4'⟩ : ∃ x, l.take 4 = x := ⟨_, rfl⟩
  rw [hl4'] at hl4 hlt hsz ⊢
  have HE := Lib.hid hl4'
  have HL4 := Lib.hid hl4
  have HLT := Lib.hid hlt
  obtain ⟨s4, hs4⟩ : ∃ s, tx l4 = s := ⟨_, rfl⟩
  have hix : ∀ j, j < 4 → s4[j]? = some (l4.getD j 0) := fun j hj => by rw [← hs4]; exact tx_get (by omega)
  have HIX := Lib.hid hix
  rw [hs4] at hsz ⊢
  clear hl4' hl4 hlt hs4 hix
  go_wp2_with fail
  go_loop [6, 7] (fun s t => ∃ j : Nat, j ≤ 4 ∧ t = .int .i64 j ∧ s = .int .i64 (beN (l4.take j))) (fun _ t => 4 - (intOf t).toNat)
  case atStart => exact ⟨0, Nat.zero_le _, rfl, by rw [List.take_zero]; rfl⟩
  case round =>
    obtain ⟨j, hj, rfl, rfl⟩ := hrel
    have hj0 : (0 : Int) ≤ j := by omega
    by_cases hlt : j < 4
    · have hc := HIX.out j hlt
      have hlj : j < l4.length := by have := HL4.out; omega
      have htk : beN (l4.take (j + 1)) = beN (l4.take j) * 256 + (l4.getD j 0).toNat := by
        rw [List.take_succ_eq_append_getElem hlj, beN_snoc, List.getD_eq_getElem?_getD, List.getElem?_eq_getElem hlj]; rfl
      have hbd := beN_lt (l4.take j)
      have hbd2 : beN (l4.take j) ≤ 16777216 := by
        have : (l4.take j).length ≤ 3 := by rw [List.length_take]; omega
        have h2 := Nat.pow_le_pow_right (n := 256) (by decide) this
        omega
      obtain ⟨N, hN⟩ : ∃ N, beN (l4.take j) = N := ⟨_, rfl⟩
      rw [hN] at htk hbd2 ⊢
      have HTK := Lib.hid htk
      have hcl := (l4.getD j 0).toNat_lt
      generalize l4.getD j 0 = c at hc HTK hcl
      obtain ⟨C, hC⟩ : ∃ C, c.toNat = C := ⟨_, rfl⟩
      rw [hC] at hcl HTK
      have hcg : ∀ h, (s4[j]'h).toNat = C := fun h => by
        rw [getElem?_pos s4 j h] at hc
        rw [Option.some.inj hc, hC]
      have HCG := Lib.hid hcg
      have hN0 : (0 : Int) ≤ N := by omega
      have hN1 : (N : Int) ≤ 16777216 := by omega
      have hC0 : (0 : Int) ≤ C := by omega
      have hC1 : (C : Int) ≤ 255 := by omega
      have hj1 : (j : Int) < 4 := by omega
      clear htk hbd hbd2 hcl hN hcg hlt
      go_wp2_with fail
      go_round
      case rel => exact ⟨j + 1, by omega, by go_num, by rw [HTK.out]; simp only [HCG.out]; rw [IntWalk.wrap64_in (C : Int) (by omega), IntWalk.wrap64_in _ (by omega)]; push_cast; rfl⟩
      case measure => simp [intOf]; omega
    · have hj4 : j = 4 := by omega
      have hj1 : ¬ (j : Int) < 4 := by omega
      rw [show l4.take j = l4 by rw [List.take_of_length_le (by have := HL4.out; omega)]]
      have hbn : beN l4 < 4294967296 := by have := HLT.out; rw [HL4.out] at this; exact this
      obtain ⟨N, hN⟩ : ∃ N, beN l4 = N := ⟨_, rfl⟩
      have HN := Lib.hid hN
      rw [hN] at hbn ⊢
      have hN0 : (0 : Int) ≤ N := by omega
      have hN1 : (N : Int) < 4294967296 := by omega
      clear hN hlt
      have hll := HL.out
      have hdl : (l.drop 4).length = l.length - 4 := List.length_drop
      by_cases hbig : N ≤ l.length - 4
      · have hm1 : ¬ (most : Int) < N := by omega
        have ht := Lib.hid (take_ok (l.drop 4) N rb w1 H1.out.1 (by omega) (by omega))
        have E := Lib.hid hbig
        clear hll hdl hbig
        go_wp2_with fail
        refine ht.out.mono ?_
        rintro e w2 ⟨rfl, h2, m2⟩
        have E2 := Lib.hid (show RdText l rb w (.returned (.string (tx ((l.drop 4).take N)))) w2 from ⟨H1.out.2.trans (fq := (· = rb)) m2 (fun _ _ c => c), .inl ⟨by rw [HE.out, HN.out]; exact E.out, by rw [HE.out, HN.out], _, h2⟩⟩)
        clear h2 m2
        go_wp2_with fail
        go_ret
        exact E2.out
      · have hb2 : l.length - 4 < N := by omega
        have hx : ∀ x : Int, x < 0 ∨ ((l.drop 4).length : Int) < x → Calls Tryd.prog 52 #[.pointer (some ⟨rb, 0, none⟩), .int .i64 x] w1 fun e w' => e = .returned (.string (tx [])) ∧ RdText l rb w e w' := fun x hx => (take_bad (l.drop 4) x rb w1 H1.out.1 hx (by omega)).mono fun e w2 ⟨he, h2, m2⟩ => ⟨he, H1.out.2.trans (fq := (· = rb)) m2 (fun _ _ c => c), .inr ⟨by rw [HE.out, HN.out]; exact hb2, he, _, h2⟩⟩
        have hx1 := Lib.hid (hx (-1) (.inl (by omega)))
        have hx2 := Lib.hid (hx N (.inr (by omega)))
        clear hx hb2 hbig hll hdl
        by_cases hmo : most < N
        · have hm1 : (most : Int) < N := by omega
          go_wp2_with fail
          refine hx1.out.mono ?_
          rintro e w2 ⟨rfl, h2⟩
          have E2 := Lib.hid h2
          clear h2
          go_wp2_with fail
          go_ret
          exact E2.out
        · have hm1 : ¬ (most : Int) < N := by omega
          go_wp2_with fail
          refine hx2.out.mono ?_
          rintro e w2 ⟨rfl, h2⟩
          have E2 := Lib.hid h2
          clear h2
          go_wp2_with fail
          go_ret
          exact E2.out
end Go.Proofs.YtldicnhpccionaaDoor
