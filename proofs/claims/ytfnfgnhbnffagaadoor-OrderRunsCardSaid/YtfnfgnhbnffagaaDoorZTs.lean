/-
Texts in memory, and the library's Clone of them; Clone of members.
-/
import Derived.Test.YtfnfgnhbnffagaaDoorZSlR
import Derived.Test.YtfnfgnhbnffagaaDoorZSlP
import Derived.Test.YtfnfgnhbnffagaaDoorZRq
import Derived.Test.YtfnfgnhbnffagaaDoorZSl
namespace Go.Proofs.YtfnfgnhbnffagaaDoor
open Go.RowKit
set_option linter.unusedVariables false
set_option linter.unusedSimpArgs false
set_option maxRecDepth 100000
/-- a slice's address is nil only if the slice is empty, and it is the start of an element -/
structure SlOk (A : Option Addr) (n : Nat) : Prop where
  none : A = none → n = 0
  spot : 0 < n → ∀ a, A = some a → a.spot = Option.none
structure TS (w : World) (A : Option Addr) (n : Nat) (ss : List ByteArray) : Prop where
  len : ss.length = n
  small : n ≤ 8796093022208
  mem : 0 < n → ∃ b off, A = some ⟨b, off, none⟩ ∧ b < w.heap.size ∧ ∀ i, i < n → w.cell? ⟨b, off + i, none⟩ = some (.string (ss.getD i ByteArray.empty))
theorem TS.below {w w' : World} {A : Option Addr} {n : Nat} {ss : List ByteArray} (h : TS w A n ss) (hb : Below w.heap.size w w') : TS w' A n ss := by
  refine ⟨h.len, h.small, fun hn => ?_⟩
  obtain ⟨b, off, rfl, hlt, hr⟩ := h.mem hn
  exact ⟨b, off, rfl, Nat.lt_of_lt_of_le hlt hb.size, fun i hi => by rw [hb.cell (p := ⟨b, off + i, none⟩) hlt]; exact hr i hi⟩
theorem infoT : (Tryd.prog.info? 9).map (fun i => (i.zero, i.size, i.bytes)) = some (some (.string ByteArray.empty), 1, 16) := by kernel_rfl
def strV (ss : List ByteArray) : List Value := ss.map Value.string
@[go_sem ↓] theorem ap_T (ty : TypeId) (args : Array Value) : Builtin.append_ #[47, 47] ty args = apRow #[47, 47] ty args := rfl
@[go_sem] theorem nil_T (a : Option Addr) (l c : Nat) (w : World) : (binOp .eql 47 (.slice a l c) (.slice none 0 0)).run Tryd.prog w = .ok (.bool a.isNone) w := Lib.run_eql_slice_nil w 47 9 a l c 0 0 Tryd.underlying47
@[go_sem ↓] theorem bs_T (n : Nat) (ps : Array (Nat × Value)) : Instr.buildSlice 47 n ps = bsRow 47 n ps := rfl
@[go_sem] theorem bs_T0 (w : World) : (bsRow 47 0 #[]).run Tryd.prog w = .ok (.slice (some ⟨w.heap.size, 0, none⟩) 0 0) (w.alloc (.cells #[] 9)) := by
  obtain ⟨i0, hi, hz0, hz1, hz2⟩ := info_parts infoT
  exact bs_row Tryd.underlying47 hi hz0 hz1 rfl (by decide) w [] (by simp) (by simp)
@[go_sem] theorem bs_T1 (s : ByteArray) (w : World) : (bsRow 47 1 #[(0, .string s)]).run Tryd.prog w = .ok (.slice (some ⟨w.heap.size, 0, none⟩) 1 1) (w.alloc (.cells #[.string s] 9)) := by
  obtain ⟨i0, hi, hz0, hz1, hz2⟩ := info_parts infoT
  have := bs_row Tryd.underlying47 hi hz0 hz1 rfl (by decide) w [.string s] (by intro v hv; simp only [List.mem_singleton] at hv; rw [hv]; rfl) (by simp)
  simpa [Value.cells] using this
/-- a row of strings of one's own -/
def OT (w : World) (B : Nat) (v : Value) (ss : List ByteArray) : Prop := w.ownsRow B 9 1 v ss.length (strV ss)
theorem OT.ts {w : World} {B : Nat} {v : Value} {ss : List ByteArray} (h : OT w B v ss) (hs : ss.length ≤ 8796093022208) : ∃ A cap, v = .slice A ss.length cap ∧ TS w A ss.length ss ∧ SlOk A ss.length := by
  rcases h.2 with ⟨rfl, h0⟩ | ⟨g, cap, cur, rfl, hB, hh, hc, hm, hcs, hx⟩
  · exact ⟨none, 0, by rw [h0], ⟨rfl, hs, fun h => by omega⟩, fun _ => h0, fun _ a h => (by cases h)⟩
  · refine ⟨_, cap, rfl, ⟨rfl, hs, fun h => ⟨g, 0, rfl, (Array.getElem?_eq_some_iff.1 hh).1, fun i hi => ?_⟩⟩, fun h => (by cases h), fun _ a h => by cases h; rfl⟩
    have hv : (strV ss)[i]? = some (.string (ss.getD i ByteArray.empty)) := by
      unfold strV
      rw [List.getElem?_map, List.getD_eq_getElem?_getD, List.getElem?_eq_getElem hi]; rfl
    rw [Nat.zero_add]
    rw [← hx, Nat.mul_one] at hv
    rw [List.getElem?_take, if_pos hi] at hv
    simp [World.cell?, hh]
    simpa using hv
theorem ot_push {w : World} {B : Nat} {v : Value} {ss : List ByteArray} (ty : TypeId) (h : OT w B v ss) (s : ByteArray) (hn : ss.length ≤ 100000) (hB : B ≤ w.heap.size) :
    ∃ v' w', (apRow #[47, 47] ty #[v, .slice (some ⟨w.heap.size, 0, none⟩) 1 1]).run Tryd.prog (w.alloc (.cells #[.string s] 9)) = .ok v' w' ∧ OT w' B v' (ss ++ [s]) ∧ Below B w w' := by
  obtain ⟨i0, hi, hz0, hz1, hz2⟩ := info_parts infoT
  have hlt : ∀ k, v.ownBlock = some k → B ≤ k ∧ k < w.heap.size := by
    intro k hk
    rcases h.2 with ⟨rfl, -⟩ | ⟨g', cap, cur, rfl, hB', hh, -⟩
    · cases hk
    · simp [Value.ownBlock] at hk; subst hk; exact ⟨hB', (Array.getElem?_eq_some_iff.1 hh).1⟩
  obtain ⟨v', w', h1, h2, h3, -, h5⟩ := run_append_own_at (P := Tryd.prog) (w.alloc (.cells #[.string s] 9)) B 47 ty 9 i0 (.string ByteArray.empty) 1 16 Tryd.underlying47 hi hz0 hz1 hz2 rfl (by decide) v ss.length (strV ss) (World.ownsRow.alloc h _) ⟨w.heap.size, 0, none⟩ 1 1 [.string s] rfl
    (fun j u hu => by rw [Addr.add_mid, Nat.zero_add, World.cell?_alloc_at _ _ _ _ rfl]; simpa using hu) (by intro u hu; simp only [List.mem_singleton] at hu; rw [hu]; rfl) (by simp only [maxLen]; omega) (by omega) (by simp; omega)
  refine ⟨v', w', h1, ?_, ((Below.refl B w).alloc hB _).grown h3 (by simp; omega) (fun k hk => (hlt k hk).1)⟩
  unfold OT strV
  rw [List.length_append, List.map_append]
  exact h2
theorem ot_nil (w : World) (B : Nat) : OT w B (.slice none 0 0) [] := World.ownsRow_nil _ _ _ _
theorem OT.below {w w' : World} {B : Nat} {v : Value} {ss : List ByteArray} (h : OT w B v ss) (hb : Below w.heap.size w w') : OT w' B v ss := by
  refine ⟨h.1, ?_⟩
  rcases h.2 with h0 | ⟨g, cap, cur, hv, hB, hh, r⟩
  · exact .inl h0
  · exact .inr ⟨g, cap, cur, hv, hB, (hb.block g (Array.getElem?_eq_some_iff.1 hh).1).trans hh, r⟩
theorem ot_shape {w : World} {B : Nat} {v : Value} {ss : List ByteArray} {n : Nat} (h : OT w B v ss) (hn : ss.length = n) : ∃ A cap, v = .slice A n cap := by
  subst hn
  rcases h.2 with ⟨rfl, h0⟩ | ⟨g', cap, cur, rfl, -⟩
  · exact ⟨none, 0, by rw [h0]⟩
  · exact ⟨_, cap, rfl⟩
theorem strV_ones (ss : List ByteArray) : ∀ u ∈ strV ss, u.oneCell' = true := by
  intro u hu
  obtain ⟨s, -, rfl⟩ := List.mem_map.1 hu
  rfl
/-- what Clone of texts answers -/
def ClonedT (ss : List ByteArray) (w : World) (e : Ending) (w' : World) : Prop := ∃ v, e = .returned v ∧ OT w' w.heap.size v ss ∧ Below w.heap.size w w'
set_option maxHeartbeats 1000000 in
theorem clone0S (a : Addr) (cap : Nat) (w : World) : Calls Tryd.prog 24 #[.slice (some a) 0 cap] w (ClonedT [] w) := by
  obtain ⟨i0, hi, hz0, hz1, hz2⟩ := info_parts infoT
  have hown : (w.alloc (.cells #[] 9)).ownsRow w.heap.size 9 1 (.slice (some ⟨w.heap.size, 0, none⟩) 0 0) 0 [] := World.ownsRow_made w #[] 0 (Nat.le_refl _) (by decide) rfl
  obtain ⟨v', w1, hrun, hown1, hgrow, _, hat⟩ := run_append_own_at (P := Tryd.prog) (w.alloc (.cells #[] 9)) w.heap.size 47 47 9 i0 (.string ByteArray.empty) 1 16 Tryd.underlying47 hi hz0 hz1 hz2 rfl (by decide)
    (.slice (some ⟨w.heap.size, 0, none⟩) 0 0) 0 [] hown a 0 cap [] rfl (fun j u hu => by simp at hu) (by simp) (by simp only [maxLen]; omega) (by omega) (by simp)
  have hr : (apRow #[47, 47] 47 #[.slice (some ⟨w.heap.size, 0, none⟩) 0 0, .slice (some a) 0 cap]).run Tryd.prog (w.alloc (.cells #[] 9)) = .ok v' w1 := hrun
  have hB : Below w.heap.size w w1 := ((Below.refl _ _).alloc (Nat.le_refl _) _).grown hgrow (by simp) (fun k hk => by simp [Value.ownBlock] at hk; omega)
  have H1 := Lib.hid hown1
  clear hown hrun hown1 hgrow hat hi hz0 hz1 hz2
  go_enter Tryd.func24, Tryd.ntmps24
  go_wp2_with fail
  go_ret
  exact ⟨_, rfl, H1.out, hB⟩
set_option maxHeartbeats 1000000 in
theorem cloneS_any (A : Option Addr) (n cap : Nat) (ss : List ByteArray) (w : World) (h : TS w A n ss) (ho : SlOk A n) :
    Calls Tryd.prog 24 #[.slice A n cap] w (ClonedT ss w) := by
  cases A with
  | none =>
    obtain rfl := ho.none rfl
    have hms : ss = [] := List.eq_nil_of_length_eq_zero h.len
    subst hms
    clear ho h
    go_enter Tryd.func24, Tryd.ntmps24
    go_wp2_with fail
    go_ret
    exact ⟨_, rfl, World.ownsRow_nil _ _ _ _, Below.refl _ _⟩
  | some ad =>
    by_cases hn0 : n = 0
    · subst hn0
      have hss : ss = [] := List.eq_nil_of_length_eq_zero h.len
      subst hss
      exact clone0S ad cap w
    obtain ⟨b, off, sp⟩ := ad
    obtain rfl : sp = none := ho.spot (by omega) _ rfl
    have hlen := h.len
    have hsm := h.small
    obtain ⟨i0, hi, hz0, hz1, hz2⟩ := info_parts infoT
    have hown : (w.alloc (.cells #[] 9)).ownsRow w.heap.size 9 1 (.slice (some ⟨w.heap.size, 0, none⟩) 0 0) 0 [] := World.ownsRow_made w #[] 0 (Nat.le_refl _) (by decide) rfl
    obtain ⟨v', w1, hrun, hown1, hgrow, _, hat⟩ := run_append_own_at (P := Tryd.prog) (w.alloc (.cells #[] 9)) w.heap.size 47 47 9 i0 (.string ByteArray.empty) 1 16 Tryd.underlying47 hi hz0 hz1 hz2 rfl (by decide)
      (.slice (some ⟨w.heap.size, 0, none⟩) 0 0) 0 [] hown ⟨b, off, none⟩ n cap (strV ss) (by unfold strV; rw [List.length_map, hlen, Nat.mul_one])
      (fun j u hu => by
        have hj : j < n := by have := (List.getElem?_eq_some_iff.1 hu).1; unfold strV at this; rw [List.length_map, hlen] at this; exact this
        obtain ⟨b', off', e, hb, hm⟩ := h.mem (by omega)
        cases e
        have h1 := hm j hj
        have h2 : u = .string (ss.getD j ByteArray.empty) := by
          unfold strV at hu
          rw [List.getElem?_map, List.getElem?_eq_getElem (by omega)] at hu
          rw [List.getD_eq_getElem?_getD, List.getElem?_eq_getElem (by omega)]
          simpa using hu.symm
        rw [h2, Addr.add_mid, World.cell?_alloc_lt _ _ _ hb]
        exact h1)
      (strV_ones ss) (by simp only [maxLen]; omega) (by omega) (by simp)
    have hr : (apRow #[47, 47] 47 #[.slice (some ⟨w.heap.size, 0, none⟩) 0 0, .slice (some ⟨b, off, none⟩) n cap]).run Tryd.prog (w.alloc (.cells #[] 9)) = .ok v' w1 := hrun
    have hB : Below w.heap.size w w1 := ((Below.refl _ _).alloc (Nat.le_refl _) _).grown hgrow (by simp) (fun k hk => by simp [Value.ownBlock] at hk; omega)
    have H1 := Lib.hid hown1
    have HL := Lib.hid hlen
    clear ho h hown hrun hown1 hgrow hat hi hz0 hz1 hz2 hlen
    go_enter Tryd.func24, Tryd.ntmps24
    go_wp2_with fail
    go_ret
    exact ⟨_, rfl, by unfold OT; rw [HL.out]; simpa using H1.out, hB⟩
@[go_sem ↓] theorem ap_Mc (ty : TypeId) (args : Array Value) : Builtin.append_ #[24, 24] ty args = apRow #[24, 24] ty args := rfl
set_option maxHeartbeats 1000000 in
theorem clone0M (a : Addr) (cap : Nat) (w : World) : Calls Tryd.prog 62 #[.slice (some a) 0 cap] w (Cloned [] 0 w) := by
  obtain ⟨i0, hi, hz0, hz1, hz2⟩ := info_parts infoM
  have hown : (w.alloc (.cells #[] 60)).ownsRow w.heap.size 60 34 (.slice (some ⟨w.heap.size, 0, none⟩) 0 0) 0 [] := World.ownsRow_made w #[] 0 (Nat.le_refl _) (by decide) rfl
  obtain ⟨v', w1, hrun, hown1, hgrow, _, hat⟩ := run_append_own_at (P := Tryd.prog) (w.alloc (.cells #[] 60)) w.heap.size 24 24 60 i0 (.agg Mb.zero.arr) 34 48 Tryd.underlying24 hi hz0 hz1 hz2 (Mb.size Mb.zero_ok) (by decide)
    (.slice (some ⟨w.heap.size, 0, none⟩) 0 0) 0 [] hown a 0 cap [] rfl (fun j u hu => by simp at hu) (by simp) (by simp only [maxLen]; omega) (by omega) (by simp)
  have hr : (apRow #[24, 24] 24 #[.slice (some ⟨w.heap.size, 0, none⟩) 0 0, .slice (some a) 0 cap]).run Tryd.prog (w.alloc (.cells #[] 60)) = .ok v' w1 := hrun
  have hB : Below w.heap.size w w1 := ((Below.refl _ _).alloc (Nat.le_refl _) _).grown hgrow (by simp) (fun k hk => by simp [Value.ownBlock] at hk; omega)
  have H1 := Lib.hid hown1
  clear hown hrun hown1 hgrow hat hi hz0 hz1 hz2
  go_enter Tryd.func62, Tryd.ntmps62
  go_wp2_with fail
  go_ret
  exact ⟨_, rfl, H1.out, hB⟩
theorem cloneM (A : Option Addr) (n cap : Nat) (ms : List Mb) (w : World) (h : MS w A n ms) (hb : n * 48 ≤ 140737488355328) (ho : SlOk A n) : Calls Tryd.prog 62 #[.slice A n cap] w (Cloned ms n w) := by
  by_cases hn : n = 0
  · subst hn
    have hms : ms = [] := List.eq_nil_of_length_eq_zero h.len
    subst hms
    cases A with
    | none => exact clone_any none 0 cap [] w h hb (fun _ => rfl) (fun a h => by cases h)
    | some a => exact clone0M a cap w
  · exact clone_any A n cap ms w h hb ho.none (ho.spot (by omega))
@[go_sem ↓] theorem ap_Pc (ty : TypeId) (args : Array Value) : Builtin.append_ #[22, 22] ty args = apRow #[22, 22] ty args := rfl
set_option maxHeartbeats 1000000 in
theorem clone0P (a : Addr) (cap : Nat) (w : World) : Calls Tryd.prog 45 #[.slice (some a) 0 cap] w (ClonedP [] 0 w) := by
  obtain ⟨i0, hi, hz0, hz1, hz2⟩ := info_parts infoMP
  have hown : (w.alloc (.cells #[] 75)).ownsRow w.heap.size 75 2 (.slice (some ⟨w.heap.size, 0, none⟩) 0 0) 0 [] := World.ownsRow_made w #[] 0 (Nat.le_refl _) (by decide) rfl
  obtain ⟨v', w1, hrun, hown1, hgrow, _, hat⟩ := run_append_own_at (P := Tryd.prog) (w.alloc (.cells #[] 75)) w.heap.size 22 22 75 i0 (.agg Pr.zero.arr) 2 32 Tryd.underlying22 hi hz0 hz1 hz2 (Pr.size Pr.zero_ok) (by decide)
    (.slice (some ⟨w.heap.size, 0, none⟩) 0 0) 0 [] hown a 0 cap [] rfl (fun j u hu => by simp at hu) (by simp) (by simp only [maxLen]; omega) (by omega) (by simp)
  have hr : (apRow #[22, 22] 22 #[.slice (some ⟨w.heap.size, 0, none⟩) 0 0, .slice (some a) 0 cap]).run Tryd.prog (w.alloc (.cells #[] 75)) = .ok v' w1 := hrun
  have hB : Below w.heap.size w w1 := ((Below.refl _ _).alloc (Nat.le_refl _) _).grown hgrow (by simp) (fun k hk => by simp [Value.ownBlock] at hk; omega)
  have H1 := Lib.hid hown1
  clear hown hrun hown1 hgrow hat hi hz0 hz1 hz2
  go_enter Tryd.func45, Tryd.ntmps45
  go_wp2_with fail
  go_ret
  exact ⟨_, rfl, H1.out, hB⟩
theorem cloneP (A : Option Addr) (n cap : Nat) (ms : List Pr) (w : World) (h : PS w A n ms) (hb : n * 32 ≤ 140737488355328) (ho : SlOk A n) : Calls Tryd.prog 45 #[.slice A n cap] w (ClonedP ms n w) := by
  by_cases hn : n = 0
  · subst hn
    have hms : ms = [] := List.eq_nil_of_length_eq_zero h.len
    subst hms
    cases A with
    | none => exact clone_anyP none 0 cap [] w h hb (fun _ => rfl) (fun a h => by cases h)
    | some a => exact clone0P a cap w
  · exact clone_anyP A n cap ms w h hb ho.none (ho.spot (by omega))
end Go.Proofs.YtfnfgnhbnffagaaDoor
