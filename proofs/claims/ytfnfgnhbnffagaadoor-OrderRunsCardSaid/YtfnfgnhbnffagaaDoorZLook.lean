/-
Where a member is: the reference's Place, the package's Find with the library's IndexFunc, the package's find with the library's BinarySearchFunc; whether two configurations are the same.
-/
import Derived.Test.YtfnfgnhbnffagaaDoorZMb
import Derived.Test.YtfnfgnhbnffagaaDoorZEq
import Derived.WalkSmall
namespace Go.Proofs.YtfnfgnhbnffagaaDoor
open Go.RowKit
set_option linter.unusedVariables false
set_option maxRecDepth 100000

theorem below_new2 {B : Nat} {w wr w1 : World} {o : Obj} (hbw : Below B w wr) (hs : B ≤ wr.heap.size) (hb1 : Below (wr.alloc o).heap.size (wr.alloc o) w1) : Below B w w1 :=
  (hbw.alloc hs _).trans (hb1.mono (by simp; omega))

/-- the first member of a number: which one; -1: there is none -/
def placeI (ms : List Mb) (id : Int) : Int := match ms.findIdx? (·.id == id) with | some i => (i : Int) | none => -1
theorem placeI_at {ms : List Mb} {id : Int} {k : Nat} (hk : k < ms.length) (h : (ms.getD k default).id = id) (hb : ∀ j, j < k → (ms.getD j default).id ≠ id) : placeI ms id = (k : Int) := by
  have : ms.findIdx? (·.id == id) = some k := by
    rw [List.findIdx?_eq_some_iff_getElem]
    refine ⟨hk, ?_, ?_⟩
    · rw [List.getD_eq_getElem?_getD, List.getElem?_eq_getElem hk] at h
      simpa using h
    · intro j hj
      have := hb j hj
      rw [List.getD_eq_getElem?_getD, List.getElem?_eq_getElem (by omega)] at this
      simpa using this
  unfold placeI
  rw [this]
theorem placeI_none {ms : List Mb} {id : Int} (hb : ∀ j, j < ms.length → (ms.getD j default).id ≠ id) : placeI ms id = -1 := by
  have : ms.findIdx? (·.id == id) = none := by
    rw [List.findIdx?_eq_none_iff]
    intro x hx
    obtain ⟨j, hj, rfl⟩ := List.mem_iff_getElem.1 hx
    have := hb j hj
    rw [List.getD_eq_getElem?_getD, List.getElem?_eq_getElem hj] at this
    simpa using this
  unfold placeI
  rw [this]
theorem placeI_cases (ms : List Mb) (id : Int) : (placeI ms id = -1 ∧ ∀ j, j < ms.length → (ms.getD j default).id ≠ id) ∨ ∃ k, k < ms.length ∧ placeI ms id = (k : Int) ∧ (ms.getD k default).id = id ∧ ∀ j, j < k → (ms.getD j default).id ≠ id := by
  cases h : ms.findIdx? (·.id == id) with
  | none =>
    refine .inl ⟨by unfold placeI; rw [h], ?_⟩
    rw [List.findIdx?_eq_none_iff] at h
    intro j hj
    have := h ms[j] (List.getElem_mem hj)
    rw [List.getD_eq_getElem?_getD, List.getElem?_eq_getElem hj]
    simpa using this
  | some k =>
    obtain ⟨hk, h1, h2⟩ := List.findIdx?_eq_some_iff_getElem.1 h
    refine .inr ⟨k, hk, by unfold placeI; rw [h], ?_, ?_⟩
    · rw [List.getD_eq_getElem?_getD, List.getElem?_eq_getElem hk]
      simpa using h1
    · intro j hj
      have := h2 j hj
      rw [List.getD_eq_getElem?_getD, List.getElem?_eq_getElem (by omega)]
      simpa using this

set_option maxHeartbeats 2000000 in
theorem place_any (ep : Int) (A : Option Addr) (n cap : Nat) (ms : List Mb) (id : Int) (w : World) (h : MS w A n ms) :
    Calls Tryd.prog 59 #[.agg #[.int .i64 ep, .slice A n cap], .int .i64 id] w fun e w' => e = .returned (.int .i64 (placeI ms id)) ∧ Below w.heap.size w w' := by
  have hs := h.small
  have hl := h.len
  have H := Lib.hid h
  have HL := Lib.hid hl
  have hmem : ∀ k, k < n → ∃ b off, A = some ⟨b, off, none⟩ ∧ b < w.heap.size ∧ rowAt w b (off + k * 34) 34 = some (ms.getD k default).arr := fun k hk => by
    obtain ⟨b, off, e, hb, hm⟩ := h.mem (by omega)
    exact ⟨b, off, e, hb, hm k hk⟩
  have HM := Lib.hid hmem
  clear hmem h hl
  go_enter Tryd.func59, Tryd.ntmps59
  go_wp2_with fail
  go_loopw [10] (fun t wr => ∃ k : Nat, k ≤ n ∧ t = .int .i64 k ∧ (∀ j, j < k → (ms.getD j default).id ≠ id) ∧ Below w.heap.size w wr) (fun t _ => n - (intOf t).toNat)
  case atStart => exact ⟨0, by omega, rfl, fun i hi => by omega, (Below.refl _ _).alloc (Nat.le_refl _) _⟩
  case round =>
    obtain ⟨k, hk, rfl, hne, hbw⟩ := hrel
    have NE := Lib.hid hne
    clear hne
    by_cases hlt : k < n
    · obtain ⟨b, off, hA, hb, hr0⟩ := HM.out k hlt
      subst hA
      have hm := H.out.okAt hlt
      have hr := (rowAt_below hbw hb _ _).trans hr0
      clear hr0
      obtain ⟨m, hmd⟩ : ∃ m, ms.getD k default = m := ⟨_, rfl⟩
      have q1 := Mb.sz (hmd ▸ hm : m.ok)
      have q2 := m.ones
      have q4 := m.at0
      rw [hmd] at hm hr
      have MD := Lib.hid hmd
      clear hmd
      by_cases hid : m.id = id
      · have q5 : (m.id == id) = true := beq_iff_eq.2 hid
        have HP := Lib.hid (placeI_at (k := k) (by rw [HL.out]; exact hlt) (MD.out ▸ hid) NE.out)
        clear hid
        go_wp2_with fail
        go_ret
        exact ⟨by rw [HP.out]; rfl, hbw.alloc hbw.size _⟩
      · have q5 : (m.id == id) = false := beq_eq_false_iff_ne.2 hid
        have HI := Lib.hid hid
        clear hid
        go_wp2_with fail
        go_roundw
        case rel => exact ⟨k + 1, by omega, by go_num, fun j hj => by rcases Nat.lt_or_ge j k with c | c; exact NE.out j c; rw [show j = k by omega, MD.out]; exact HI.out, hbw.alloc hbw.size _⟩
        case measure => simp [intOf]; omega
    · have HP := Lib.hid (placeI_none (ms := ms) (id := id) (fun j hj => NE.out j (by rw [HL.out] at hj; omega)))
      go_wp2_with fail
      go_ret
      exact ⟨by rw [HP.out]; rfl, hbw⟩

set_option maxHeartbeats 400000 in
theorem findLit_any {m : Mb} (id : Int) (w : World) : Calls Tryd.prog 79 #[.agg m.arr, .int .i64 id] w fun e w' => e = .returned (.int .i64 (wrap64 (m.id - id))) ∧ Below w.heap.size w w' := by
  have q4 := m.at0
  go_enter Tryd.func79, Tryd.ntmps79
  go_wp2_with fail
  go_ret
  exact ⟨rfl, (Below.refl _ _).alloc (Nat.le_refl _) _⟩

/-- what a search by halves has found: where it stopped, and whether there is a member of that number -/
def SearchEnd (ms : List Mb) (id : Int) (n : Nat) (w : World) (e : Ending) (w' : World) : Prop :=
  ∃ (i : Nat) (b : Bool), e = .returned (.tuple #[.int .i64 (i : Int), .bool b]) ∧ i ≤ n ∧ (b = true → i < n ∧ (ms.getD i default).id = id) ∧ (b = false → ∀ j, j < n → (ms.getD j default).id ≠ id) ∧
    (0 ≤ id → id ≤ 64 → (∀ j, j < i → (ms.getD j default).id < id) ∧ ∀ j, i ≤ j → j < n → id ≤ (ms.getD j default).id) ∧ Below w.heap.size w w'

/-- members by rising numbers, each from 1 to 63 -/
structure Rising (ms : List Mb) (n : Nat) : Prop where
  lo : ∀ j, j < n → 1 ≤ (ms.getD j default).id
  hi : ∀ j, j < n → (ms.getD j default).id ≤ 63
  up : ∀ j, j + 1 < n → (ms.getD j default).id < (ms.getD (j + 1) default).id
theorem Rising.lt {ms : List Mb} {n : Nat} (h : Rising ms n) {i j : Nat} (hij : i < j) (hj : j < n) : (ms.getD i default).id < (ms.getD j default).id := by
  induction j with
  | zero => omega
  | succ j ih =>
    have := h.up j hj
    rcases Nat.lt_or_ge i j with c | c
    · have := ih c (by omega); omega
    · rw [show i = j by omega]; exact this

theorem wf_i64_bounds {n : Int} (h : (Lit.int .i64 n).wf = true) : -9223372036854775808 ≤ n ∧ n ≤ 9223372036854775807 := by
  simp [Lit.wf, IntKind.min, IntKind.max, IntKind.signed, IntKind.bits] at h
  omega

set_option maxHeartbeats 4000000 in
theorem bsearch_any (A : Option Addr) (n cap : Nat) (ms : List Mb) (id : Int) (w : World) (h : MS w A n ms) (hr : Rising ms n) (w1 : (Lit.int .i64 id).wf = true) :
    Calls Tryd.prog 78 #[.slice A n cap, .int .i64 id, .func (.func 79) #[] #[]] w (SearchEnd ms id n w) := by
  have hs := h.small
  have hl := h.len
  have H := Lib.hid h
  have HL := Lib.hid hl
  have HR := Lib.hid hr
  have hmem : ∀ k, k < n → ∃ b off, A = some ⟨b, off, none⟩ ∧ b < w.heap.size ∧ rowAt w b (off + k * 34) 34 = some (ms.getD k default).arr := fun k hk => by
    obtain ⟨b, off, e, hb, hm⟩ := h.mem (by omega)
    exact ⟨b, off, e, hb, hm k hk⟩
  have HM := Lib.hid hmem
  clear hmem h hl hr
  go_enter Tryd.func78, Tryd.ntmps78
  go_wp2_with fail
  go_loopw [9, 10] (fun t u wr => ∃ i j : Nat, i ≤ j ∧ j ≤ n ∧ t = .int .i64 i ∧ u = .int .i64 j ∧
    (0 ≤ id → id ≤ 64 → (∀ q, q < i → (ms.getD q default).id < id) ∧ ∀ q, j ≤ q → q < n → id ≤ (ms.getD q default).id) ∧ Below w.heap.size w wr) (fun t u _ => (intOf u - intOf t).toNat)
  case atStart => exact ⟨0, n, by omega, by omega, rfl, rfl, fun _ _ => ⟨fun q hq => by omega, fun q h1 h2 => by omega⟩, Below.refl _ _⟩
  case round =>
    obtain ⟨i, j, hij, hj, rfl, rfl, hinv, hbw⟩ := hrel
    have IV := Lib.hid hinv
    clear hinv
    by_cases hlt : i < j
    · obtain ⟨b, off, hA, hb, hr0⟩ := HM.out ((i + j) / 2) (by omega)
      subst hA
      have hm := H.out.okAt (i := (i + j) / 2) (by omega)
      have hr := (rowAt_below hbw hb _ _).trans hr0
      clear hr0
      obtain ⟨m, hmd⟩ : ∃ m, ms.getD ((i + j) / 2) default = m := ⟨_, rfl⟩
      rw [hmd] at hm hr
      have b1 : 0 ≤ ((i : Int) + (j : Int)) / 2 := by omega
      have b2 : ((i : Int) + (j : Int)) / 2 < (n : Int) := by omega
      have e1 := Lib.hid (show ((i : Int) + (j : Int)) / 2 = (((i + j) / 2 : Nat) : Int) by omega)
      have m1 : 1 ≤ m.id := by rw [← hmd]; exact HR.out.lo _ (by omega)
      have m2 : m.id ≤ 63 := by rw [← hmd]; exact HR.out.hi _ (by omega)
      have MD := Lib.hid hmd
      clear hmd
      by_cases hneg : wrap64 (m.id - id) < 0
      · have h5 : 0 ≤ id → id ≤ 64 → m.id < id := fun g1 g2 => by unfold wrap64 at hneg; omega
        have H5 := Lib.hid h5
        clear h5
        go_wp2_with fail
        refine (findLit_any id _).mono ?_
        rintro e w2 ⟨rfl, hb2⟩
        go_wp2_with fail
        go_roundw
        case rel =>
          refine ⟨(i + j) / 2 + 1, j, by omega, hj, by rw [e1.out]; go_num, rfl, fun g1 g2 => ⟨fun q hq => ?_, (IV.out g1 g2).2⟩, hbw.trans (hb2.mono hbw.size)⟩
          have := H5.out g1 g2
          rcases Nat.lt_or_ge q ((i + j) / 2) with c | c
          · have h9 := HR.out.lt c (by omega)
            rw [MD.out] at h9
            omega
          · rw [show q = (i + j) / 2 by omega, MD.out]; exact this
        case measure => simp [intOf]; omega
      · have h5 : 0 ≤ id → id ≤ 64 → id ≤ m.id := fun g1 g2 => by unfold wrap64 at hneg; omega
        have H5 := Lib.hid h5
        clear h5
        go_wp2_with fail
        refine (findLit_any id _).mono ?_
        rintro e w2 ⟨rfl, hb2⟩
        go_wp2_with fail
        go_roundw
        case rel =>
          refine ⟨i, (i + j) / 2, by omega, by omega, rfl, by rw [e1.out], fun g1 g2 => ⟨(IV.out g1 g2).1, fun q h1 h2 => ?_⟩, hbw.trans (hb2.mono hbw.size)⟩
          have := H5.out g1 g2
          rcases Nat.lt_or_ge ((i + j) / 2) q with c | c
          · have h9 := HR.out.lt c h2
            rw [MD.out] at h9
            omega
          · rw [show q = (i + j) / 2 by omega, MD.out]; exact this
        case measure => simp [intOf]; omega
    · obtain rfl : i = j := by omega
      by_cases hin : i < n
      · obtain ⟨b, off, hA, hb, hr0⟩ := HM.out i hin
        subst hA
        have hr := (rowAt_below hbw hb _ _).trans hr0
        clear hr0
        obtain ⟨m, hmd⟩ : ∃ m, ms.getD i default = m := ⟨_, rfl⟩
        rw [hmd] at hr
        have m1 : 1 ≤ m.id := by rw [← hmd]; exact HR.out.lo _ hin
        have m2 : m.id ≤ 63 := by rw [← hmd]; exact HR.out.hi _ hin
        have MD := Lib.hid hmd
        clear hmd
        by_cases hz : m.id = id
        · have q5 : (wrap64 (m.id - id) == 0) = true := by rw [beq_iff_eq]; unfold wrap64; omega
          have HZ := Lib.hid hz
          clear hz
          go_wp2_with fail
          refine (findLit_any id _).mono ?_
          rintro e w2 ⟨rfl, hb2⟩
          go_wp2_with fail
          go_ret2
          exact ⟨i, true, rfl, hj, fun _ => ⟨hin, by rw [MD.out]; exact HZ.out⟩, fun h => by (cases h), fun g1 g2 => IV.out g1 g2, hbw.trans (hb2.mono hbw.size)⟩
        · have q5 : (wrap64 (m.id - id) == 0) = false := by rw [beq_eq_false_iff_ne]; unfold wrap64; have := wf_i64_bounds w1; omega
          have HZ := Lib.hid hz
          clear hz
          go_wp2_with fail
          refine (findLit_any id _).mono ?_
          rintro e w2 ⟨rfl, hb2⟩
          go_wp2_with fail
          go_ret2
          refine ⟨i, false, rfl, hj, fun h => by (cases h), fun _ q hq hqe => ?_, fun g1 g2 => IV.out g1 g2, hbw.trans (hb2.mono hbw.size)⟩
          have l1 := HR.out.lo q hq
          have l2 := HR.out.hi q hq
          obtain ⟨v1, v2⟩ := IV.out (by omega) (by omega)
          rcases Nat.lt_trichotomy q i with c | c | c
          · have := v1 q c; omega
          · subst c; rw [MD.out] at hqe; exact HZ.out hqe
          · have h8 := v2 i (by omega) hin
            have h9 := HR.out.lt c hq
            omega
      · go_wp2_with fail
        go_ret2
        refine ⟨i, false, rfl, hj, fun h => by (cases h), fun _ q hq hqe => ?_, fun g1 g2 => IV.out g1 g2, hbw⟩
        have l1 := HR.out.lo q hq
        have l2 := HR.out.hi q hq
        obtain ⟨v1, v2⟩ := IV.out (by omega) (by omega)
        have := v1 q (by omega)
        omega

set_option maxHeartbeats 1000000 in
theorem find_any (ep : Int) (A : Option Addr) (n cap : Nat) (ms : List Mb) (id : Int) (w : World) (h : MS w A n ms) (hr : Rising ms n) (w1 : (Lit.int .i64 id).wf = true) :
    Calls Tryd.prog 70 #[.agg #[.int .i64 ep, .slice A n cap], .int .i64 id] w (SearchEnd ms id n w) := by
  have hB := (Below.refl w.heap.size w).alloc (Nat.le_refl _) (.cells #[.int .i64 ep, .slice A n cap] 26)
  have H := Lib.hid (h.below hB)
  have HR := Lib.hid hr
  clear h hr
  go_enter Tryd.func70, Tryd.ntmps70
  go_wp2_with fail
  refine (bsearch_any A n cap ms id _ H.out HR.out w1).mono ?_
  rintro e w2 ⟨i, b, rfl, h1, h2, h3, h4, h5⟩
  have H2 := Lib.hid h2; have H3 := Lib.hid h3; have H4 := Lib.hid h4
  clear h2 h3 h4
  go_wp2_with fail
  go_ret2
  exact ⟨i, b, rfl, h1, H2.out, H3.out, H4.out, hB.trans (h5.mono (by simp))⟩

end Go.Proofs.YtfnfgnhbnffagaaDoor
