/-
What every law of layer 8 asks first: the four members, and what the document tells of them.
-/
import Derived.Test.YtmiaffgjfpjhfaaOpen
import Derived.Test.YtmiaffgjfpjhfaaNum
namespace Go.Proofs.Ytmiaffgjfpjhfaa
open Go.RowKit
set_option linter.unusedVariables false
set_option linter.unusedSimpArgs false

/-- a change is built -/
def Chg.zero : Chg := ⟨0, 0, 0, Kb.zero⟩
@[go_sem ↓] theorem zv_Change (w : World) : (zeroValue 35).run Try.prog w = .ok (.agg Chg.zero.arr) w := by
  have h : (Try.prog.info? 35).map (fun i => (i.zero, i.size)) = some (some (.agg Chg.zero.arr), 36) := by kernel_rfl
  exact (zero_of_info h).1 w
@[go_sem ↓] theorem bd_Change (ps : Array (Nat × Value)) : Instr.build 35 ps = bdRow 35 ps := rfl
theorem run_bdC (w : World) (ps : Array (Nat × Value)) (cells : Array Value) (hf : Instr.fill ((#[(0, 1), (1, 1), (2, 1), (3, 33)] : Array (Nat × Nat))[·]?) Chg.zero.arr ps.toList = some cells) : (bdRow 35 ps).run Try.prog w = .ok (.agg cells) w :=
  run_build w 35 Chg.zero.arr cells _ _ ps (zv_Change w) Try.underlying35 (by kernel_rfl) hf
theorem layC0 (a : Int) : lay Chg.zero.arr 0 (Value.int .i64 a).cells = Chg.arr ⟨a, 0, 0, Kb.zero⟩ := by kernel_rfl
theorem layC1 (a b : Int) : lay (Chg.arr ⟨a, 0, 0, Kb.zero⟩) 1 (Value.int .i64 b).cells = Chg.arr ⟨a, b, 0, Kb.zero⟩ := by kernel_rfl
theorem layC2 (a b c : Int) : lay (Chg.arr ⟨a, b, 0, Kb.zero⟩) 2 (Value.int .i64 c).cells = Chg.arr ⟨a, b, c, Kb.zero⟩ := by kernel_rfl
theorem Chg.zsize (a b c : Int) : (Chg.arr ⟨a, b, c, Kb.zero⟩).size = 36 := by kernel_rfl
theorem layC3 (a b c : Int) {k : Kb} (h : k.ok) : lay (Chg.arr ⟨a, b, c, Kb.zero⟩) 3 (Value.agg k.arr).cells = Chg.arr ⟨a, b, c, k⟩ := by
  have hs := Chg.zsize a b c
  show lay (Chg.arr ⟨a, b, c, Kb.zero⟩) 3 k.arr = _
  unfold lay
  rw [hs, Kb.size h]
  have e1 : (Chg.arr ⟨a, b, c, Kb.zero⟩).extract 36 36 = #[] := Array.eq_empty_of_size_eq_zero (by rw [Array.size_extract, hs]; rfl)
  have e2 : (Chg.arr ⟨a, b, c, Kb.zero⟩).extract 0 3 = #[.int .i64 a, .int .i64 b, .int .i64 c] := rfl
  rw [show (3 + 33) = 36 from rfl, e1, e2]
  simp [Chg.arr, Chg.cells, Kb.arr]
@[go_sem] theorem run_bdC2 (a b : Int) (w : World) : (bdRow 35 #[(0, .int .i64 a), (1, .int .i64 b)]).run Try.prog w = .ok (.agg (Chg.arr ⟨a, b, 0, Kb.zero⟩)) w := by
  refine run_bdC w _ _ ?_
  rw [fill_cons _ _ _ _ _ 0 1 rfl rfl (by decide), layC0, fill_cons _ _ _ _ _ 1 1 rfl rfl (by rw [Chg.zsize]; decide), layC1, fill_nil]
@[go_sem] theorem run_bdC3 (a b : Int) {k : Kb} (h : k.ok) (w : World) : (bdRow 35 #[(0, .int .i64 a), (1, .int .i64 b), (3, .agg k.arr)]).run Try.prog w = .ok (.agg (Chg.arr ⟨a, b, 0, k⟩)) w := by
  refine run_bdC w _ _ ?_
  rw [fill_cons _ _ _ _ _ 0 1 rfl rfl (by decide), layC0, fill_cons _ _ _ _ _ 1 1 rfl rfl (by rw [Chg.zsize]; decide), layC1, fill_cons _ _ _ (.agg k.arr) _ 3 33 rfl (Kb.size h) (by rw [Chg.zsize]; decide), layC3 a b 0 h, fill_nil]
@[go_sem] theorem run_bdC4 (a b c : Int) {k : Kb} (h : k.ok) (w : World) : (bdRow 35 #[(0, .int .i64 a), (1, .int .i64 b), (2, .int .i64 c), (3, .agg k.arr)]).run Try.prog w = .ok (.agg (Chg.arr ⟨a, b, c, k⟩)) w := by
  refine run_bdC w _ _ ?_
  rw [fill_cons _ _ _ _ _ 0 1 rfl rfl (by decide), layC0, fill_cons _ _ _ _ _ 1 1 rfl rfl (by rw [Chg.zsize]; decide), layC1, fill_cons _ _ _ _ _ 2 1 rfl rfl (by rw [Chg.zsize]; decide), layC2, fill_cons _ _ _ (.agg k.arr) _ 3 33 rfl (Kb.size h) (by rw [Chg.zsize]; decide), layC3 a b c h, fill_nil]

def four : List Mb := [⟨1, Kb.zero⟩, ⟨2, Kb.zero⟩, ⟨3, Kb.zero⟩, ⟨4, Kb.zero⟩]
theorem four_ok : OkAll four := by
  intro m hm
  have : m.key = Kb.zero ∧ (Lit.int .i64 m.id).wf = true := by
    unfold four at hm
    simp only [List.mem_cons, List.not_mem_nil, or_false] at hm
    rcases hm with rfl | rfl | rfl | rfl <;> exact ⟨rfl, by decide⟩
  exact ⟨by rw [this.1]; exact Kb.zero_ok, this.2⟩
@[go_sem] theorem bs_M4 (w : World) : (bsRow 22 4 #[(0, .agg (Mb.arr ⟨1, Kb.zero⟩)), (1, .agg (Mb.arr ⟨2, Kb.zero⟩)), (2, .agg (Mb.arr ⟨3, Kb.zero⟩)), (3, .agg (Mb.arr ⟨4, Kb.zero⟩))]).run Try.prog w =
    .ok (.slice (some ⟨w.heap.size, 0, none⟩) 4 4) (w.alloc (.cells (flatC Mb.cells four).toArray 37)) := by
  obtain ⟨i0, hi, hz0, hz1, hz2⟩ := info_parts infoM
  have := bs_row Try.underlying22 hi hz0 hz1 (Mb.size Mb.zero_ok) (by decide) w [.agg (Mb.arr ⟨1, Kb.zero⟩), .agg (Mb.arr ⟨2, Kb.zero⟩), .agg (Mb.arr ⟨3, Kb.zero⟩), .agg (Mb.arr ⟨4, Kb.zero⟩)]
    (by
      intro v hv
      simp only [List.mem_cons, List.not_mem_nil, or_false] at hv
      rcases hv with rfl | rfl | rfl | rfl <;> exact Mb.size ⟨Kb.zero_ok, by decide⟩) (by decide)
  simpa [Value.cells, flatC, four, Mb.arr] using this
/-- what four answers -/
def FourEnd (w : World) (e : Ending) (w' : World) : Prop := ∃ A, e = .returned (.agg #[.int .i64 0, .slice A 4 4]) ∧ MS w' A 4 four ∧ Below w.heap.size w w'
theorem four_M (w : World) : MS ((w.alloc (.cells #[.int .i64 0, .slice (some ⟨w.heap.size + 1, 0, none⟩) 4 4] 24)).alloc (.cells (flatC Mb.cells four).toArray 37)) (some ⟨w.heap.size + 1, 0, none⟩) 4 four := by
  have hg := heap_alloc_new (w.alloc (.cells #[.int .i64 0, .slice (some ⟨w.heap.size + 1, 0, none⟩) 4 4] 24)) (.cells (flatC Mb.cells four).toArray 37)
  have hl : (flatC Mb.cells four).length = 136 := by rw [flatC_length four_ok.len]; rfl
  have h := own_of_block (B := 0) (n := 4) (cap := 4) (sz := 34) (Nat.zero_le _) hg (Nat.le_refl _) (by decide) (by simpa using hl) (by rw [List.take_of_length_le (by simp [hl])])
  obtain ⟨A, cap, hv, M⟩ := MS_of_own h four_ok (by decide)
  have e : (w.alloc (.cells #[.int .i64 0, .slice (some ⟨w.heap.size + 1, 0, none⟩) 4 4] 24)).heap.size = w.heap.size + 1 := by simp
  rw [e] at hv
  cases hv
  exact M
theorem four_any (w : World) : Calls Try.prog 21 #[] w (FourEnd w) := by
  go_enter Try.func21, Try.ntmps21
  go_wp2_with fail
  refine bodyPost_ret (v := .agg #[.int .i64 0, .slice (some ⟨w.heap.size + 1, 0, none⟩) 4 4]) (by rw [results_cell1 Try.results21]; simp [go_sem, *]) rfl ?_
  exact ⟨_, rfl, four_M w, ((Below.refl _ _).alloc (Nat.le_refl _) _).alloc (by simp) _⟩

theorem chg2_ok : (Chg.mk 2 2 0 Kb.zero).ok := ⟨by decide, by decide, by decide, Kb.zero_ok⟩
theorem four_G : goodB 0 four = true := by kernel_rfl
theorem four_E : appE 0 four ⟨2, 2, 0, Kb.zero⟩ = 0 := by kernel_rfl
theorem four_R : appR 0 four ⟨2, 2, 0, Kb.zero⟩ = [⟨1, Kb.zero⟩, ⟨3, Kb.zero⟩, ⟨4, Kb.zero⟩] := by kernel_rfl
/-- what the document tells holds -/
theorem alive_any (w : World) : Calls Try.prog 9 #[] w fun e w' => e = .returned (.bool true) ∧ Below w.heap.size w w' := by
  go_enter Try.func9, Try.ntmps9
  go_wp2_with fail
  refine (four_any _).mono ?_
  rintro e w1 ⟨A, rfl, M1, hb1⟩
  have M1 := Lib.hid M1
  go_wp2_with fail
  refine (apply_any 0 A 4 4 four ⟨2, 2, 0, Kb.zero⟩ w1 M1.out chg2_ok).mono ?_
  rw [four_E, four_R]
  rintro e w2 ⟨v, rfl, hown, hok, hb2⟩
  obtain ⟨A2, cap2, rfl, -⟩ := MS_of_own hown hok (by decide)
  have hb12 := hb1.trans (hb2.mono hb1.size)
  clear hown hok
  have hln : ([⟨1, Kb.zero⟩, ⟨3, Kb.zero⟩, ⟨4, Kb.zero⟩] : List Mb).length = 3 := rfl
  go_wp2_with fail
  refine (four_any _).mono ?_
  rintro e w3 ⟨A3, rfl, M3, hb3⟩
  have M3 := Lib.hid M3
  have d0 : (w2.alloc (.cells #[.int .i64 1, .slice A2 3 cap2] 24)).cell? ⟨w2.heap.size, 0, none⟩ = some (.int .i64 1) := by rw [World.cell?_alloc_at _ _ _ _ rfl]; rfl
  have d1 : (w2.alloc (.cells #[.int .i64 1, .slice A2 3 cap2] 24)).cell? ⟨w2.heap.size, 1, none⟩ = some (.slice A2 3 cap2) := by rw [World.cell?_alloc_at _ _ _ _ rfl]; rfl
  have hlt : w2.heap.size < (w2.alloc (.cells #[.int .i64 1, .slice A2 3 cap2] 24)).heap.size := by simp
  have hb13 := hb12.alloc (Nat.le_trans hb1.size hb2.size) (.cells #[.int .i64 1, .slice A2 3 cap2] 24)
  generalize w2.alloc (.cells #[.int .i64 1, .slice A2 3 cap2] 24) = W at *
  go_wp2_with fail
  refine (good_any 0 A3 4 4 four _ M3.out).mono ?_
  rw [four_G]
  rintro e w4 ⟨rfl, hb4⟩
  have hb34 := hb3.trans (hb4.mono hb3.size)
  go_wp2_with fail
  refine (four_any _).mono ?_
  rintro e w5 ⟨A5, rfl, M5, hb5⟩
  have M5 := Lib.hid M5
  have hb35 := hb34.trans (hb5.mono hb34.size)
  go_wp2_with fail
  refine (quorum_any 0 A5 4 4 (by decide) _).mono ?_
  rintro e w6 ⟨rfl, hb6⟩
  have hb36 := hb35.trans (hb6.mono hb35.size)
  go_wp2_with fail
  refine (four_any _).mono ?_
  rintro e w7 ⟨A7, rfl, M7, hb7⟩
  have M7 := Lib.hid M7
  have hb37 := hb36.trans (hb7.mono hb36.size)
  go_wp2_with fail
  refine (weak_any 0 A7 4 4 (by decide) _).mono ?_
  rintro e w8 ⟨rfl, hb8⟩
  have hb38 := hb37.trans (hb8.mono hb37.size)
  have e0 := (hb38.cell (p := ⟨w2.heap.size, 0, none⟩) hlt).trans d0
  have e1 := (hb38.cell (p := ⟨w2.heap.size, 1, none⟩) hlt).trans d1
  go_wp2_with fail
  go_ret
  exact ⟨rfl, hb13.trans (hb38.mono hb13.size)⟩

/-- a law's configuration, in its box -/
structure Box (B : Nat) (ep : Int) (A : Option Addr) (n cap : Nat) (w : World) : Prop where
  c0 : w.cell? ⟨B, 0, none⟩ = some (.int .i64 ep)
  c1 : w.cell? ⟨B, 1, none⟩ = some (.slice A n cap)
  hi : B < w.heap.size
theorem Box.start (w : World) (ep : Int) (A : Option Addr) (n cap : Nat) : Box w.heap.size ep A n cap (w.alloc (.cells #[.int .i64 ep, .slice A n cap] 24)) :=
  ⟨by rw [World.cell?_alloc_at _ _ _ _ rfl]; rfl, by rw [World.cell?_alloc_at _ _ _ _ rfl]; rfl, by simp⟩
theorem Box.later {B : Nat} {ep : Int} {A : Option Addr} {n cap : Nat} {w w' : World} (b : Box B ep A n cap w) (h : Below w.heap.size w w') : Box B ep A n cap w' :=
  ⟨(h.cell (p := ⟨B, 0, none⟩) b.hi).trans b.c0, (h.cell (p := ⟨B, 1, none⟩) b.hi).trans b.c1, Nat.lt_of_lt_of_le b.hi h.size⟩
theorem Later.same {P : Program} {f : FuncId} {args : Array Value} {W : World} {x : Later W} {v : Value}
    (h : Calls P f args x.world fun e w' => e = .returned v ∧ x.world = w') : Calls P f args x.world fun e w'' => e = .returned v ∧ ∃ y : Later W, w'' = y.world :=
  h.mono fun _ w' ⟨he, hb⟩ => ⟨he, x, hb.symm⟩
/-- what has grown since the law was called -/
theorem since {B : Nat} {w w1 w2 : World} (h : Below B w w1) (hs : B ≤ w1.heap.size) (h2 : Below w1.heap.size w1 w2) : Below B w w2 ∧ B ≤ w2.heap.size :=
  ⟨h.trans (h2.mono hs), Nat.le_trans hs h2.size⟩
theorem alloc_below (w : World) (o : Obj) : Below w.heap.size w (w.alloc o) := (Below.refl _ _).alloc (Nat.le_refl _) o
theorem row_alloc (w : World) (c : Array Value) (t : TypeId) {n : Nat} (h : SizeIs c n) : rowAt (w.alloc (.cells c t)) w.heap.size 0 n = some c := by
  unfold rowAt; rw [heap_alloc_new]; exact cut_all _ _ h

end Go.Proofs.Ytmiaffgjfpjhfaa
