/-
The library's search by halves at replies and at pairs: it answers what the plain search by halves answers.
-/
import Derived.Test.YtfnfgnhbnffagaaDoorZPr
import Derived.WalkSmall
namespace Go.Proofs.YtfnfgnhbnffagaaDoor
open Go.RowKit
set_option linter.unusedVariables false
set_option linter.unusedSimpArgs false
def aheadR (ms : List Rp) (c : Int) (k : Nat) : Bool := decide (wrap64 ((ms.getD k default).client - c) < 0)
def lastI (ms : List Rp) (c : Int) : Nat := halve (aheadR ms c) 0 ms.length
def lastB (ms : List Rp) (c : Int) : Bool := decide (lastI ms c < ms.length) && (wrap64 ((ms.getD (lastI ms c) default).client - c) == 0)
theorem lastI_le (ms : List Rp) (c : Int) : lastI ms c ≤ ms.length := (halve_le _ _ 0 _ (Nat.le_refl _) (Nat.zero_le _)).2
theorem lastB_lt {ms : List Rp} {c : Int} (h : lastB ms c = true) : lastI ms c < ms.length := by
  unfold lastB at h
  simp only [Bool.and_eq_true, decide_eq_true_eq] at h
  exact h.1
def cmpS (a b : ByteArray) : Int := if Op.bytesLess a.toList b.toList then -1 else if a.toList == b.toList then 0 else 1
def aheadP (ms : List Pr) (c : ByteArray) (k : Nat) : Bool := Op.bytesLess (ms.getD k default).key.toList c.toList
def pairI (ms : List Pr) (c : ByteArray) : Nat := halve (aheadP ms c) 0 ms.length
def pairB (ms : List Pr) (c : ByteArray) : Bool := decide (pairI ms c < ms.length) && (cmpS (ms.getD (pairI ms c) default).key c == 0)
theorem pairI_le (ms : List Pr) (c : ByteArray) : pairI ms c ≤ ms.length := (halve_le _ _ 0 _ (Nat.le_refl _) (Nat.zero_le _)).2
theorem pairB_lt {ms : List Pr} {c : ByteArray} (h : pairB ms c = true) : pairI ms c < ms.length := by
  unfold pairB at h
  simp only [Bool.and_eq_true, decide_eq_true_eq] at h
  exact h.1

set_option maxHeartbeats 400000 in
theorem lastLit_any {m : Rp} (id : Int) (w : World) : Calls Tryd.prog 43 #[.agg m.arr, .int .i64 id] w fun e w' => e = .returned (.int .i64 (wrap64 (m.client - id))) ∧ Below w.heap.size w w' := by
  have q4 := m.at0
  go_enter Tryd.func43, Tryd.ntmps43
  go_wp2_with fail
  go_ret
  exact ⟨rfl, (Below.refl _ _).alloc (Nat.le_refl _) _⟩
theorem isNaNS_any (a : ByteArray) (w : World) : Calls Tryd.prog 75 #[.string a] w fun e w' => e = .returned (.bool false) ∧ w = w' := by
  go_enter Tryd.func75, Tryd.ntmps75
  go_wp2_with fail
  go_ret
  simp
theorem compareS_any (a b : ByteArray) (w : World) : Calls Tryd.prog 65 #[.string a, .string b] w fun e w' => e = .returned (.int .i64 (cmpS a b)) ∧ w = w' := by
  cases hl : Op.bytesLess a.toList b.toList
  · cases he : (a.toList == b.toList)
    · have hc := Lib.hid (show cmpS a b = 1 by unfold cmpS; rw [hl, he]; rfl)
      go_enter Tryd.func65, Tryd.ntmps65
      go_wp2_with fail
      refine (isNaNS_any a _).mono ?_
      rintro e w' ⟨rfl, rfl⟩
      go_wp2_with fail
      refine (isNaNS_any b _).mono ?_
      rintro e w' ⟨rfl, rfl⟩
      go_wp2_with fail
      go_ret
      exact ⟨by rw [hc.out]; rfl, rfl⟩
    · have hc := Lib.hid (show cmpS a b = 0 by unfold cmpS; rw [hl, he]; rfl)
      go_enter Tryd.func65, Tryd.ntmps65
      go_wp2_with fail
      refine (isNaNS_any a _).mono ?_
      rintro e w' ⟨rfl, rfl⟩
      go_wp2_with fail
      refine (isNaNS_any b _).mono ?_
      rintro e w' ⟨rfl, rfl⟩
      go_wp2_with fail
      go_ret
      exact ⟨by rw [hc.out]; rfl, rfl⟩
  · have hc := Lib.hid (show cmpS a b = -1 by unfold cmpS; rw [hl]; rfl)
    go_enter Tryd.func65, Tryd.ntmps65
    go_wp2_with fail
    refine (isNaNS_any a _).mono ?_
    rintro e w' ⟨rfl, rfl⟩
    go_wp2_with fail
    refine (isNaNS_any b _).mono ?_
    rintro e w' ⟨rfl, rfl⟩
    go_wp2_with fail
    go_ret
    exact ⟨by rw [hc.out]; rfl, rfl⟩
theorem pairLit_any {m : Pr} (key : ByteArray) (w : World) : Calls Tryd.prog 64 #[.agg m.arr, .string key] w fun e w' => e = .returned (.int .i64 (cmpS m.key key)) ∧ Below w.heap.size w w' := by
  have q4 := m.at0
  go_enter Tryd.func64, Tryd.ntmps64
  go_wp2_with fail
  refine (compareS_any m.key key _).mono ?_
  rintro e w' ⟨rfl, rfl⟩
  go_wp2_with fail
  go_ret
  exact ⟨rfl, (Below.refl _ _).alloc (Nat.le_refl _) _⟩
set_option maxHeartbeats 4000000 in
theorem bsearchR_any (A : Option Addr) (n cap : Nat) (ms : List Rp) (id : Int) (w : World) (h : RS w A n ms) :
    Calls Tryd.prog 42 #[.slice A n cap, .int .i64 id, .func (.func 43) #[] #[]] w fun e w' => e = .returned (.tuple #[.int .i64 (lastI ms id), .bool (lastB ms id)]) ∧ Below w.heap.size w w' := by
  have hs := h.small
  have hl := h.len
  have HL := Lib.hid hl
  have hmem : ∀ k, k < n → ∃ b off, A = some ⟨b, off, none⟩ ∧ b < w.heap.size ∧ rowAt w b (off + k * 4) 4 = some (ms.getD k default).arr := fun k hk => by
    obtain ⟨b, off, e, hb, hm⟩ := h.mem (by omega)
    exact ⟨b, off, e, hb, hm k hk⟩
  have HM := Lib.hid hmem
  have hI0 : lastI ms id = halve (aheadR ms id) 0 n := by rw [← hl]; rfl
  have hB0 : lastB ms id = (decide (lastI ms id < n) && (wrap64 ((ms.getD (lastI ms id) default).client - id) == 0)) := by rw [← hl]; rfl
  generalize lastB ms id = LB at hB0 ⊢
  generalize lastI ms id = LI at hI0 hB0 ⊢
  have HI0 := Lib.hid hI0
  have HB0 := Lib.hid hB0
  clear hmem h hl hI0 hB0
  go_enter Tryd.func42, Tryd.ntmps42
  go_wp2_with fail
  go_loopw [9, 10] (fun t u wr => ∃ i j : Nat, i ≤ j ∧ j ≤ n ∧ t = .int .i64 i ∧ u = .int .i64 j ∧
    halve (aheadR ms id) i j = LI ∧ Below w.heap.size w wr) (fun t u _ => (intOf u - intOf t).toNat)
  case atStart => exact ⟨0, n, by omega, by omega, rfl, rfl, HI0.out.symm, Below.refl _ _⟩
  case round =>
    obtain ⟨i, j, hij, hj, rfl, rfl, hinv, hbw⟩ := hrel
    have IV := Lib.hid hinv
    clear hinv
    by_cases hlt : i < j
    · obtain ⟨b, off, hA, hb, hr0⟩ := HM.out ((i + j) / 2) (by omega)
      subst hA
      have hr := (rowAt_below hbw hb _ _).trans hr0
      clear hr0
      obtain ⟨m, hmd⟩ : ∃ m, ms.getD ((i + j) / 2) default = m := ⟨_, rfl⟩
      rw [hmd] at hr
      have b1 : 0 ≤ ((i : Int) + (j : Int)) / 2 := by omega
      have b2 : ((i : Int) + (j : Int)) / 2 < (n : Int) := by omega
      have e1 := Lib.hid (show ((i : Int) + (j : Int)) / 2 = (((i + j) / 2 : Nat) : Int) by omega)
      have MD := Lib.hid hmd
      clear hmd
      by_cases hneg : wrap64 (m.client - id) < 0
      · have HA := Lib.hid (show aheadR ms id ((i + j) / 2) = true by unfold aheadR; rw [MD.out]; exact decide_eq_true hneg)
        go_wp2_with fail
        refine (lastLit_any id _).mono ?_
        rintro e w2 ⟨rfl, hb2⟩
        go_wp2_with fail
        go_roundw
        case rel => exact ⟨(i + j) / 2 + 1, j, by omega, hj, by rw [e1.out]; go_num, rfl, (halve_lt hlt HA.out).symm.trans IV.out, hbw.trans (hb2.mono hbw.size)⟩
        case measure => simp [intOf]; omega
      · have HA := Lib.hid (show aheadR ms id ((i + j) / 2) = false by unfold aheadR; rw [MD.out]; exact decide_eq_false hneg)
        go_wp2_with fail
        refine (lastLit_any id _).mono ?_
        rintro e w2 ⟨rfl, hb2⟩
        go_wp2_with fail
        go_roundw
        case rel => exact ⟨i, (i + j) / 2, by omega, by omega, rfl, by rw [e1.out], (halve_ge hlt HA.out).symm.trans IV.out, hbw.trans (hb2.mono hbw.size)⟩
        case measure => simp [intOf]; omega
    · obtain rfl : i = j := by omega
      have hii : LI = i := by rw [← IV.out, halve_end]
      subst hii
      by_cases hin : LI < n
      · obtain ⟨b, off, hA, hb, hr0⟩ := HM.out LI hin
        subst hA
        have hr := (rowAt_below hbw hb _ _).trans hr0
        clear hr0
        obtain ⟨m, hmd⟩ : ∃ m, ms.getD LI default = m := ⟨_, rfl⟩
        rw [hmd] at hr
        have MD := Lib.hid hmd
        clear hmd
        cases hz : (wrap64 (m.client - id) == 0)
        · have HZ := Lib.hid (show LB = false by rw [HB0.out, MD.out, hz]; simp)
          go_wp2_with fail
          refine (lastLit_any id _).mono ?_
          rintro e w2 ⟨rfl, hb2⟩
          go_wp2_with fail
          go_ret2
          exact ⟨by rw [HZ.out]; rfl, hbw.trans (hb2.mono hbw.size)⟩
        · have HZ := Lib.hid (show LB = true by rw [HB0.out, MD.out, hz]; simp [hin])
          go_wp2_with fail
          refine (lastLit_any id _).mono ?_
          rintro e w2 ⟨rfl, hb2⟩
          go_wp2_with fail
          go_ret2
          exact ⟨by rw [HZ.out]; rfl, hbw.trans (hb2.mono hbw.size)⟩
      · have HZ := Lib.hid (show LB = false by rw [HB0.out]; simp [hin])
        go_wp2_with fail
        go_ret2
        exact ⟨by rw [HZ.out]; rfl, hbw⟩
theorem last_any (vp vm : Value) (A : Option Addr) (n cap : Nat) (ep : Int) (ms : List Rp) (id : Int) (w : World) (h : RS w A n ms) :
    Calls Tryd.prog 23 #[.agg #[vp, .slice A n cap, .int .i64 ep, vm], .int .i64 id] w fun e w' => e = .returned (.tuple #[.int .i64 (lastI ms id), .bool (lastB ms id)]) ∧ Below w.heap.size w w' := by
  have hB := (Below.refl w.heap.size w).alloc (Nat.le_refl _) (.cells #[vp, .slice A n cap, .int .i64 ep, vm] 28)
  have H := Lib.hid (h.below hB)
  clear h
  go_enter Tryd.func23, Tryd.ntmps23
  go_wp2_with fail
  refine (bsearchR_any A n cap ms id _ H.out).mono ?_
  rintro e w2 ⟨rfl, h5⟩
  go_wp2_with fail
  go_ret2
  exact ⟨rfl, hB.trans (h5.mono (by simp))⟩
set_option maxHeartbeats 4000000 in
theorem bsearchP_any (A : Option Addr) (n cap : Nat) (ms : List Pr) (id : ByteArray) (w : World) (h : PS w A n ms) :
    Calls Tryd.prog 63 #[.slice A n cap, .string id, .func (.func 64) #[] #[]] w fun e w' => e = .returned (.tuple #[.int .i64 (pairI ms id), .bool (pairB ms id)]) ∧ Below w.heap.size w w' := by
  have hs := h.small
  have hl := h.len
  have HL := Lib.hid hl
  have hmem : ∀ k, k < n → ∃ b off, A = some ⟨b, off, none⟩ ∧ b < w.heap.size ∧ rowAt w b (off + k * 2) 2 = some (ms.getD k default).arr := fun k hk => by
    obtain ⟨b, off, e, hb, hm⟩ := h.mem (by omega)
    exact ⟨b, off, e, hb, hm k hk⟩
  have HM := Lib.hid hmem
  have hI0 : pairI ms id = halve (aheadP ms id) 0 n := by rw [← hl]; rfl
  have hB0 : pairB ms id = (decide (pairI ms id < n) && (cmpS (ms.getD (pairI ms id) default).key id == 0)) := by rw [← hl]; rfl
  generalize pairB ms id = LB at hB0 ⊢
  generalize pairI ms id = LI at hI0 hB0 ⊢
  have HI0 := Lib.hid hI0
  have HB0 := Lib.hid hB0
  clear hmem h hl hI0 hB0
  go_enter Tryd.func63, Tryd.ntmps63
  go_wp2_with fail
  go_loopw [9, 10] (fun t u wr => ∃ i j : Nat, i ≤ j ∧ j ≤ n ∧ t = .int .i64 i ∧ u = .int .i64 j ∧
    halve (aheadP ms id) i j = LI ∧ Below w.heap.size w wr) (fun t u _ => (intOf u - intOf t).toNat)
  case atStart => exact ⟨0, n, by omega, by omega, rfl, rfl, HI0.out.symm, Below.refl _ _⟩
  case round =>
    obtain ⟨i, j, hij, hj, rfl, rfl, hinv, hbw⟩ := hrel
    have IV := Lib.hid hinv
    clear hinv
    by_cases hlt : i < j
    · obtain ⟨b, off, hA, hb, hr0⟩ := HM.out ((i + j) / 2) (by omega)
      subst hA
      have hr := (rowAt_below hbw hb _ _).trans hr0
      clear hr0
      obtain ⟨m, hmd⟩ : ∃ m, ms.getD ((i + j) / 2) default = m := ⟨_, rfl⟩
      rw [hmd] at hr
      have b1 : 0 ≤ ((i : Int) + (j : Int)) / 2 := by omega
      have b2 : ((i : Int) + (j : Int)) / 2 < (n : Int) := by omega
      have e1 := Lib.hid (show ((i : Int) + (j : Int)) / 2 = (((i + j) / 2 : Nat) : Int) by omega)
      have MD := Lib.hid hmd
      clear hmd
      cases hneg : Op.bytesLess m.key.toList id.toList
      · have HA := Lib.hid (show aheadP ms id ((i + j) / 2) = false by unfold aheadP; rw [MD.out]; exact hneg)
        have hcm : ¬ cmpS m.key id < 0 := by unfold cmpS; rw [hneg]; simp only [Bool.false_eq_true, if_false]; split <;> omega
        go_wp2_with fail
        refine (pairLit_any id _).mono ?_
        rintro e w2 ⟨rfl, hb2⟩
        go_wp2_with fail
        go_roundw
        case rel => exact ⟨i, (i + j) / 2, by omega, by omega, rfl, by rw [e1.out], (halve_ge hlt HA.out).symm.trans IV.out, hbw.trans (hb2.mono hbw.size)⟩
        case measure => simp [intOf]; omega
      · have HA := Lib.hid (show aheadP ms id ((i + j) / 2) = true by unfold aheadP; rw [MD.out]; exact hneg)
        have hcm : cmpS m.key id < 0 := by unfold cmpS; rw [hneg]; simp
        go_wp2_with fail
        refine (pairLit_any id _).mono ?_
        rintro e w2 ⟨rfl, hb2⟩
        go_wp2_with fail
        go_roundw
        case rel => exact ⟨(i + j) / 2 + 1, j, by omega, hj, by rw [e1.out]; go_num, rfl, (halve_lt hlt HA.out).symm.trans IV.out, hbw.trans (hb2.mono hbw.size)⟩
        case measure => simp [intOf]; omega
    · obtain rfl : i = j := by omega
      have hii : LI = i := by rw [← IV.out, halve_end]
      subst hii
      by_cases hin : LI < n
      · obtain ⟨b, off, hA, hb, hr0⟩ := HM.out LI hin
        subst hA
        have hr := (rowAt_below hbw hb _ _).trans hr0
        clear hr0
        obtain ⟨m, hmd⟩ : ∃ m, ms.getD LI default = m := ⟨_, rfl⟩
        rw [hmd] at hr
        have MD := Lib.hid hmd
        clear hmd
        cases hz : (cmpS m.key id == 0)
        · have HZ := Lib.hid (show LB = false by rw [HB0.out, MD.out, hz]; simp)
          go_wp2_with fail
          refine (pairLit_any id _).mono ?_
          rintro e w2 ⟨rfl, hb2⟩
          go_wp2_with fail
          go_ret2
          exact ⟨by rw [HZ.out]; rfl, hbw.trans (hb2.mono hbw.size)⟩
        · have HZ := Lib.hid (show LB = true by rw [HB0.out, MD.out, hz]; simp [hin])
          go_wp2_with fail
          refine (pairLit_any id _).mono ?_
          rintro e w2 ⟨rfl, hb2⟩
          go_wp2_with fail
          go_ret2
          exact ⟨by rw [HZ.out]; rfl, hbw.trans (hb2.mono hbw.size)⟩
      · have HZ := Lib.hid (show LB = false by rw [HB0.out]; simp [hin])
        go_wp2_with fail
        go_ret2
        exact ⟨by rw [HZ.out]; rfl, hbw⟩
theorem pair_any (vr vm : Value) (A : Option Addr) (n cap : Nat) (ep : Int) (ms : List Pr) (id : ByteArray) (w : World) (h : PS w A n ms) :
    Calls Tryd.prog 46 #[.agg #[.slice A n cap, vr, .int .i64 ep, vm], .string id] w fun e w' => e = .returned (.tuple #[.int .i64 (pairI ms id), .bool (pairB ms id)]) ∧ Below w.heap.size w w' := by
  have hB := (Below.refl w.heap.size w).alloc (Nat.le_refl _) (.cells #[.slice A n cap, vr, .int .i64 ep, vm] 28)
  have H := Lib.hid (h.below hB)
  clear h
  go_enter Tryd.func46, Tryd.ntmps46
  go_wp2_with fail
  refine (bsearchP_any A n cap ms id _ H.out).mono ?_
  rintro e w2 ⟨rfl, h5⟩
  go_wp2_with fail
  go_ret2
  exact ⟨rfl, hB.trans (h5.mono (by simp))⟩
end Go.Proofs.YtfnfgnhbnffagaaDoor
