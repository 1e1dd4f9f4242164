/-
The reference's disk: the power goes; the fuse; reading.
-/
import Derived.Test.YtldicnhpccionaaDoorRk
namespace Go.Proofs.YtldicnhpccionaaDoor
open Go.RowKit
set_option linter.unusedVariables false
set_option linter.unusedSimpArgs false
section
variable {mb : Nat} {down : Bool} {acts fuse keep : Int} {fo : Option (List UInt8 × List UInt8)} {v : Value}
/-- the reference's own blocks -/
def rkFp (mb : Nat) (v : Value) (i : Nat) : Prop := i = mb ∨ v.ownBlock = some i
def loseF (k : Int) (fo : Option (List UInt8 × List UInt8)) : Option (List UInt8 × List UInt8) := fo.map fun x => (x.1 ++ keepN k x.2, [])
set_option maxRecDepth 100000 in
set_option maxHeartbeats 2000000 in
theorem rlose_any (k : Int) (w : World) (h : Rk mb false acts fuse keep fo v w) (hl : foLen fo ≤ 1000000) :
    Calls Tryd.prog 29 #[.pointer (some ⟨mb, 0, none⟩), .int .i64 k] w fun e w' => e = .returned (.tuple #[]) ∧ Rk mb true acts 0 keep (loseF k fo) v w' ∧ Mv (rkFp mb v) w w' := by
  have c0 : w.cell? ⟨mb, 0, none⟩ = some v := cell_at h.cells rfl
  have c1 : w.cell? ⟨mb, 1, none⟩ = some (.bool false) := cell_at h.cells rfl
  have c3 : w.cell? ⟨mb, 3, none⟩ = some (.int .i64 fuse) := cell_at h.cells rfl
  have z1 : w.frozen? ⟨mb, 1, none⟩ = false := frozen_at h.cells
  have z3 : w.frozen? ⟨mb, 3, none⟩ = false := frozen_at h.cells
  cases fo with
  | none =>
    obtain rfl : v = .slice none 0 0 := h.file
    have m1 : Mv (rkFp mb (.slice none 0 0)) w ((w.setCell ⟨mb, 1, none⟩ (.bool true)).setCell ⟨mb, 3, none⟩ (.int .i64 0)) := (Mv.setCell (fp := rkFp mb (.slice none 0 0)) w ⟨mb, 1, none⟩ _ (.inl rfl)).trans (fq := rkFp mb (.slice none 0 0)) (Mv.setCell _ ⟨mb, 3, none⟩ _ (.inl rfl)) (fun _ _ c => c)
    have r1 : Rk mb true acts 0 keep none (.slice none 0 0) ((w.setCell ⟨mb, 1, none⟩ (.bool true)).setCell ⟨mb, 3, none⟩ (.int .i64 0)) := ⟨setCell_at (i := 3) (setCell_at (i := 1) h.cells (.bool true)) _, rfl⟩
    have E := Lib.hid (And.intro r1 m1)
    clear h m1 r1
    go_enter Tryd.func29, Tryd.ntmps29
    go_wp2_with fail
    refine wp_loop_rounds 1 ?_
    rw [rounds_succ]
    go_wp2_with fail
    go_end0
    exact ⟨rfl, E.out⟩
  | some x =>
    obtain ⟨g, cap, rfl, hcap, hg, hrow⟩ := h.file.row
    obtain ⟨g', cap', cur, e', -, hgm, hcur, hcs, k0, k1, k2⟩ := h.file
    cases e'
    have hmb := h.lt
    obtain ⟨t, ht⟩ : ∃ t, tx (x.1 ++ x.2) = t := ⟨_, rfl⟩
    obtain ⟨s, hs⟩ : ∃ s, x.1.length = s := ⟨_, rfl⟩
    obtain ⟨u, hu⟩ : ∃ u, x.2.length = u := ⟨_, rfl⟩
    have hsz : t.size = s + u := by rw [← ht, tx_size, List.length_append, hs, hu]
    have hle : s + u ≤ 1000000 := by
      have : foLen (some x) = s + u := by show (x.1 ++ x.2).length = _; rw [List.length_append, hs, hu]
      omega
    rw [ht, hs] at hrow
    rw [ht] at k1
    rw [hs] at k2
    have key : ∀ m : Nat, m ≤ u → keepN k x.2 = x.2.take m → ∃ t2, t.extract 0 (s + m) = t2 ∧ ∀ w1, Below w.heap.size w w1 →
        Rk mb true acts 0 keep (loseF k (some x)) (.slice (some ⟨g, 0, none⟩) 1 cap) ((((w1.setCell ⟨g, 1, none⟩ (.string t2)).drew.setCell ⟨g, 2, none⟩ (.int .i64 (s + m : Nat))).drew.setCell ⟨mb, 1, none⟩ (.bool true)).setCell ⟨mb, 3, none⟩ (.int .i64 0)) ∧
        Mv (rkFp mb (.slice (some ⟨g, 0, none⟩) 1 cap)) w ((((w1.setCell ⟨g, 1, none⟩ (.string t2)).drew.setCell ⟨g, 2, none⟩ (.int .i64 (s + m : Nat))).drew.setCell ⟨mb, 1, none⟩ (.bool true)).setCell ⟨mb, 3, none⟩ (.int .i64 0)) := fun m hm hkm => by
      have et : t.extract 0 (s + m) = tx (x.1 ++ x.2.take m) := by
        rw [← ht, tx_part, List.drop_zero, ← hs, List.take_append, List.take_of_length_le (by omega), Nat.add_sub_cancel_left]
      refine ⟨_, et, fun w1 hb => ?_⟩
      have mv1 : Mv (rkFp mb (.slice (some ⟨g, 0, none⟩) 1 cap)) w ((((w1.setCell ⟨g, 1, none⟩ (.string (tx (x.1 ++ x.2.take m)))).drew.setCell ⟨g, 2, none⟩ (.int .i64 (s + m : Nat))).drew.setCell ⟨mb, 1, none⟩ (.bool true)).setCell ⟨mb, 3, none⟩ (.int .i64 0)) :=
        ((((((Mv.of_below (fp := rkFp mb (.slice (some ⟨g, 0, none⟩) 1 cap)) hb).trans (fq := rkFp mb (.slice (some ⟨g, 0, none⟩) 1 cap)) (Mv.setCell _ ⟨g, 1, none⟩ _ (.inr rfl)) (fun _ _ c => c)).trans (fq := rkFp mb (.slice (some ⟨g, 0, none⟩) 1 cap)) (Mv.of_below (Below.refl _ _).drew) (fun _ _ c => c)).trans (fq := rkFp mb (.slice (some ⟨g, 0, none⟩) 1 cap)) (Mv.setCell _ ⟨g, 2, none⟩ _ (.inr rfl)) (fun _ _ c => c)).trans (fq := rkFp mb (.slice (some ⟨g, 0, none⟩) 1 cap)) (Mv.of_below (Below.refl _ _).drew) (fun _ _ c => c)).trans (fq := rkFp mb (.slice (some ⟨g, 0, none⟩) 1 cap)) (Mv.setCell _ ⟨mb, 1, none⟩ _ (.inl rfl)) (fun _ _ c => c)).trans (fq := rkFp mb (.slice (some ⟨g, 0, none⟩) 1 cap)) (Mv.setCell _ ⟨mb, 3, none⟩ _ (.inl rfl)) (fun _ _ c => c)
      refine ⟨⟨?_, ?_⟩, mv1⟩
      · have h1 : w1.heap[mb]? = _ := (hb.block mb hmb).trans h.cells
        have h2 : ((w1.setCell ⟨g, 1, none⟩ (.string (tx (x.1 ++ x.2.take m)))).drew.setCell ⟨g, 2, none⟩ (.int .i64 (s + m : Nat))).drew.heap[mb]? = _ := ((Below.heap_setCell _ _ _ _ (by show mb ≠ g; exact fun e => hgm e.symm)).trans (Below.heap_setCell _ _ _ _ (by show mb ≠ g; exact fun e => hgm e.symm))).trans h1
        exact setCell_at (i := 3) (setCell_at (i := 1) h2 (.bool true)) _
      · have h1 : w1.heap[g]? = _ := (hb.block g hg).trans hcur
        have h2 : ((w1.setCell ⟨g, 1, none⟩ (.string (tx (x.1 ++ x.2.take m)))).drew.setCell ⟨g, 2, none⟩ (.int .i64 (s + m : Nat))).drew.heap[g]? = _ := setCell_at (w := (w1.setCell ⟨g, 1, none⟩ (.string (tx (x.1 ++ x.2.take m)))).drew) (i := 2) (setCell_at (i := 1) h1 (.string (tx (x.1 ++ x.2.take m)))) (.int .i64 (s + m : Nat))
        refine ⟨g, cap, _, rfl, hcap, hgm, ((Below.heap_setCell _ _ _ _ (by show g ≠ mb; exact hgm)).trans (Below.heap_setCell _ _ _ _ (by show g ≠ mb; exact hgm))).trans h2, by simp; omega, ?_, ?_, ?_⟩
        · simp [Array.getElem?_setIfInBounds, k0]
        · show _ = some (Value.string (tx ((x.1 ++ keepN k x.2) ++ [])))
          rw [List.append_nil, hkm]
          simp [Array.getElem?_setIfInBounds]
          omega
        · have e9 : (x.1 ++ keepN k x.2).length = s + m := by rw [hkm, List.length_append, List.length_take, hs, hu]; omega
          show _ = some (Value.int .i64 ((x.1 ++ keepN k x.2).length : Nat))
          rw [e9]
          simp [Array.getElem?_setIfInBounds]
          omega
    have hbw := alloc_below w (.cells #[.string nmLog, .string t, .int .i64 (s : Int)] 86)
    obtain ⟨w1, hw1⟩ : ∃ w1, w.alloc (.cells #[.string nmLog, .string t, .int .i64 (s : Int)] 86) = w1 := ⟨_, rfl⟩
    have d1 : w1.cell? ⟨w.heap.size, 1, none⟩ = some (.string t) := by rw [← hw1, World.cell?_alloc_at _ _ _ _ rfl]; rfl
    have d2 : w1.cell? ⟨w.heap.size, 2, none⟩ = some (.int .i64 (s : Int)) := by rw [← hw1, World.cell?_alloc_at _ _ _ _ rfl]; rfl
    rw [hw1] at hbw
    have hc1 : w1.heap[mb]? = _ := (hbw.block mb hmb).trans h.cells
    have hg1 : w1.heap[g]? = _ := (hbw.block g hg).trans hcur
    have e0 : w1.cell? ⟨mb, 0, none⟩ = some (.slice (some ⟨g, 0, none⟩) 1 cap) := cell_at hc1 rfl
    have y1 : w1.frozen? ⟨mb, 1, none⟩ = false := frozen_at hc1
    have y3 : w1.frozen? ⟨mb, 3, none⟩ = false := frozen_at hc1
    have x1 : w1.cell? ⟨mb, 1, none⟩ = some (.bool false) := cell_at hc1 rfl
    have x3 : w1.cell? ⟨mb, 3, none⟩ = some (.int .i64 fuse) := cell_at hc1 rfl
    have y4 : w1.frozen? ⟨g, 1, none⟩ = false := frozen_at hg1
    have y5 : w1.frozen? ⟨g, 2, none⟩ = false := frozen_at hg1
    have x4 : w1.cell? ⟨g, 1, none⟩ = some (.string t) := cell_at hg1 k1
    have x5 : w1.cell? ⟨g, 2, none⟩ = some (.int .i64 (s : Int)) := cell_at hg1 k2
    have hsz3 : SizeIs #[.string nmLog, .string t, .int .i64 (s : Int)] 3 := rfl
    have hone : oneCells #[.string nmLog, .string t, .int .i64 (s : Int)] = true := by simp [oneCells, Value.oneCell']
    have hgb : g ≠ w.heap.size := by omega
    have hmbb : mb ≠ w.heap.size := by omega
    have hni : (s : Int) + u ≤ 1000000 := by omega
    have hs0 : (0 : Int) ≤ s := by omega
    have hu0 : (0 : Int) ≤ u := by omega
    have hsub : (s : Int) + u - s = u := by omega
    by_cases hk0 : k < 0
    · obtain ⟨t2, ht2, E⟩ := key 0 (Nat.zero_le _) (by unfold keepN; rw [show k.toNat = 0 by omega])
      have E := E w1 hbw
      simp only [Nat.add_zero] at E ht2
      have E := Lib.hid E
      obtain ⟨N, hN⟩ : ∃ N, nmLog = N := ⟨_, rfl⟩
      rw [hN] at hrow hw1 hsz3 hone
      have hku : k < u := by omega
      clear h key hcur hcs k0 k1 k2 hc1 hg1 ht hs hu hN hbw hle
      go_enter Tryd.func29, Tryd.ntmps29
      go_wp2_with fail
      refine wp_loop_rounds 2 ?_
      rw [rounds_succ]
      go_wp2_with fail
      go_region
      go_wp2_with fail
      go_region
      go_wp2_with fail
      rw [rounds_succ]
      go_wp2_with fail
      go_end0
      exact ⟨rfl, E.out⟩
    · by_cases hku : k < u
      · obtain ⟨m, rfl⟩ : ∃ m : Nat, k = m := ⟨k.toNat, by omega⟩
        obtain ⟨t2, ht2, E⟩ := key m (by omega) (by unfold keepN; rw [Int.toNat_natCast])
        have E := E w1 hbw
        rw [Int.natCast_add] at E
        have E := Lib.hid E
        have htn : ((s : Int) + m).toNat = s + m := by omega
        have hb1 : (s : Int) + m ≤ s + u := by omega
        obtain ⟨N, hN⟩ : ∃ N, nmLog = N := ⟨_, rfl⟩
        rw [hN] at hrow hw1 hsz3 hone
        clear h key hcur hcs k0 k1 k2 hc1 hg1 ht hs hu hN hbw hle
        go_enter Tryd.func29, Tryd.ntmps29
        go_wp2_with fail
        refine wp_loop_rounds 2 ?_
        rw [rounds_succ]
        go_wp2_with fail
        go_region
        go_wp2_with fail
        go_region
        go_wp2_with fail
        rw [rounds_succ]
        go_wp2_with fail
        go_end0
        exact ⟨rfl, E.out⟩
      · have hkt : keepN k x.2 = x.2.take u := by
          unfold keepN
          rw [List.take_of_length_le (by omega), List.take_of_length_le (by omega)]
        obtain ⟨t2, ht2, E⟩ := key u (Nat.le_refl _) hkt
        have E := E w1 hbw
        rw [Int.natCast_add] at E
        have E := Lib.hid E
        have htn : ((s : Int) + u).toNat = s + u := by omega
        have hb1 : ¬ (u : Int) < 0 := by omega
        obtain ⟨N, hN⟩ : ∃ N, nmLog = N := ⟨_, rfl⟩
        rw [hN] at hrow hw1 hsz3 hone
        clear h key hcur hcs k0 k1 k2 hc1 hg1 ht hs hu hN hbw hle hkt
        go_enter Tryd.func29, Tryd.ntmps29
        go_wp2_with fail
        refine wp_loop_rounds 2 ?_
        rw [rounds_succ]
        go_wp2_with fail
        go_region
        go_wp2_with fail
        go_region
        go_wp2_with fail
        rw [rounds_succ]
        go_wp2_with fail
        go_end0
        exact ⟨rfl, E.out⟩
set_option maxRecDepth 100000 in
theorem rlose_down (k : Int) (w : World) (h : Rk mb true acts fuse keep fo v w) :
    Calls Tryd.prog 29 #[.pointer (some ⟨mb, 0, none⟩), .int .i64 k] w fun e w' => e = .returned (.tuple #[]) ∧ w = w' := by
  have c1 : w.cell? ⟨mb, 1, none⟩ = some (.bool true) := cell_at h.cells rfl
  clear h
  go_enter Tryd.func29, Tryd.ntmps29
  go_wp2_with fail
  refine bodyPost_ret (results_none rfl _ _ _) rfl ?_
  exact ⟨rfl, rfl⟩
set_option maxRecDepth 100000 in
theorem rarm_any (n k : Int) (w : World) (h : Rk mb down acts fuse keep fo v w) :
    Calls Tryd.prog 30 #[.pointer (some ⟨mb, 0, none⟩), .int .i64 n, .int .i64 k] w fun e w' => e = .returned (.tuple #[]) ∧ Rk mb down acts (if n < 0 then 0 else n) k fo v w' ∧ Mv (· = mb) w w' := by
  have c3 : w.cell? ⟨mb, 3, none⟩ = some (.int .i64 fuse) := cell_at h.cells rfl
  have c4 : w.cell? ⟨mb, 4, none⟩ = some (.int .i64 keep) := cell_at h.cells rfl
  have z3 : w.frozen? ⟨mb, 3, none⟩ = false := frozen_at h.cells
  have z4 : w.frozen? ⟨mb, 4, none⟩ = false := frozen_at h.cells
  have mA : Mv (· = mb) w ((w.setCell ⟨mb, 3, none⟩ (.int .i64 0)).setCell ⟨mb, 4, none⟩ (.int .i64 k)) := (Mv.setCell (fp := (· = mb)) w ⟨mb, 3, none⟩ _ rfl).trans (fq := (· = mb)) (Mv.setCell _ ⟨mb, 4, none⟩ _ rfl) (fun _ _ c => c)
  have mB : Mv (· = mb) w (((w.setCell ⟨mb, 3, none⟩ (.int .i64 0)).setCell ⟨mb, 3, none⟩ (.int .i64 n)).setCell ⟨mb, 4, none⟩ (.int .i64 k)) := ((Mv.setCell (fp := (· = mb)) w ⟨mb, 3, none⟩ _ rfl).trans (fq := (· = mb)) (Mv.setCell _ ⟨mb, 3, none⟩ _ rfl) (fun _ _ c => c)).trans (fq := (· = mb)) (Mv.setCell _ ⟨mb, 4, none⟩ _ rfl) (fun _ _ c => c)
  have rA : Rk mb down acts 0 k fo v ((w.setCell ⟨mb, 3, none⟩ (.int .i64 0)).setCell ⟨mb, 4, none⟩ (.int .i64 k)) := ⟨setCell_at (i := 4) (setCell_at (i := 3) h.cells (.int .i64 0)) _, h.file.mv mA (fun g hg => (h.file.ne hg).1)⟩
  have rB : Rk mb down acts n k fo v (((w.setCell ⟨mb, 3, none⟩ (.int .i64 0)).setCell ⟨mb, 3, none⟩ (.int .i64 n)).setCell ⟨mb, 4, none⟩ (.int .i64 k)) := ⟨setCell_at (i := 4) (setCell_at (i := 3) (setCell_at (i := 3) h.cells (.int .i64 0)) (.int .i64 n)) _, h.file.mv mB (fun g hg => (h.file.ne hg).1)⟩
  have EA := Lib.hid (And.intro rA mA)
  have EB := Lib.hid (And.intro rB mB)
  clear h mA mB rA rB
  by_cases hn : 0 < n
  · rw [if_neg (by omega)]
    go_enter Tryd.func30, Tryd.ntmps30
    go_wp2_with fail
    go_end0
    exact ⟨rfl, EB.out⟩
  · have h0 : (if n < 0 then 0 else n) = 0 := by split <;> omega
    rw [h0]
    go_enter Tryd.func30, Tryd.ntmps30
    go_wp2_with fail
    go_end0
    exact ⟨rfl, EA.out⟩
/-- what Read answers -/
def RReadEnd (down : Bool) (fo : Option (List UInt8 × List UInt8)) (w : World) (e : Ending) (w' : World) : Prop :=
  Below w.heap.size w w' ∧ e = .returned (.tuple #[.string (if down then ⟨#[]⟩ else tx ((foS fo).1 ++ (foS fo).2)), .int .i64 (if down then 21 else if fo = none then 7 else 0)])
set_option maxRecDepth 100000 in
theorem rread_any (w : World) (h : Rk mb down acts fuse keep fo v w) :
    Calls Tryd.prog 31 #[.pointer (some ⟨mb, 0, none⟩), .string nmLog] w (RReadEnd down fo w) := by
  have c0 : w.cell? ⟨mb, 0, none⟩ = some v := cell_at h.cells rfl
  have c1 : w.cell? ⟨mb, 1, none⟩ = some (.bool down) := cell_at h.cells rfl
  have hmb := h.lt
  cases down with
  | true =>
    clear h
    go_enter Tryd.func31, Tryd.ntmps31
    go_wp2_with fail
    go_ret2
    exact ⟨Below.refl _ _, rfl⟩
  | false =>
    have hpl := Lib.hid (rplace_any w h)
    cases fo with
    | none =>
      obtain ⟨N, hN⟩ : ∃ N, nmLog = N := ⟨_, rfl⟩
      rw [hN] at hpl ⊢
      clear hN h
      go_enter Tryd.func31, Tryd.ntmps31
      go_wp2_with fail
      refine hpl.out.mono ?_
      rintro e w1 ⟨rfl, b1⟩
      rw [if_pos trivial]
      have hb1 := Lib.hid b1
      clear b1
      go_wp2_with fail
      go_ret2
      exact ⟨hb1.out, rfl⟩
    | some x =>
      obtain ⟨g, cap, rfl, hcap, hg, hrow⟩ := h.file.row
      have hf : (foS (some x)).1 ++ (foS (some x)).2 = x.1 ++ x.2 := rfl
      obtain ⟨t, ht⟩ : ∃ t, tx (x.1 ++ x.2) = t := ⟨_, rfl⟩
      obtain ⟨N, hN⟩ : ∃ N, nmLog = N := ⟨_, rfl⟩
      have cc1 : w.cell? ⟨g, 1, none⟩ = some (.string t) := by
        obtain ⟨g', cap', cur, e, -, -, h3, -, -, h6, -⟩ := h.file
        cases e
        rw [← ht]
        exact cell_at h3 h6
      rw [hN] at hpl ⊢
      have HF := Lib.hid (show RReadEnd false (some x) w = fun e w' => Below w.heap.size w w' ∧ e = .returned (.tuple #[.string t, .int .i64 0]) by
        funext e w'
        unfold RReadEnd
        rw [hf, ht]
        simp)
      clear hN h hf ht
      go_enter Tryd.func31, Tryd.ntmps31
      go_wp2_with fail
      refine hpl.out.mono ?_
      rintro e w1 ⟨rfl, b1⟩
      rw [if_neg (by simp)]
      have hb1 := Lib.hid b1
      have d1 : w1.cell? ⟨mb, 0, none⟩ = some (.slice (some ⟨g, 0, none⟩) 1 cap) := (b1.cell (p := ⟨mb, 0, none⟩) hmb).trans c0
      have d2 : w1.cell? ⟨g, 1, none⟩ = some (.string t) := (b1.cell (p := ⟨g, 1, none⟩) hg).trans cc1
      clear b1 hrow c0 cc1
      go_wp2_with fail
      go_ret2
      rw [HF.out]
      exact ⟨hb1.out, rfl⟩
end
end Go.Proofs.YtldicnhpccionaaDoor
