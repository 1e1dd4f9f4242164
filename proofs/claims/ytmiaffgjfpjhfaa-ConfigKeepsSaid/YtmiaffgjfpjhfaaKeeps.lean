/-
ConfigKeeps: what is handed in stays, its spare room too; what is answered is its own.
-/
import Derived.Test.YtmiaffgjfpjhfaaKey
import Derived.Test.YtmiaffgjfpjhfaaRows
import Derived.Deep.DeepCutAuto
import Derived.BigRegion
namespace Go.Proofs.Ytmiaffgjfpjhfaa
open Go.ChangeShapes Go.WideShapes Go.ChangeAt Go.RowKit
set_option linter.unusedVariables false
set_option linter.unusedSimpArgs false

set_option maxHeartbeats 2000000 in
theorem keeps_far (ep : Int) (A : Option Addr) (n cap : Nat) {x : Chg} (hx : x.ok) (w : World) (hl : ¬ n ≤ 256) :
    Calls Try.prog 4 #[.agg #[.int .i64 ep, .slice A n cap], .agg x.arr] w fun e w' => e = .returned (.bool true) ∧ Below w.heap.size w w' := by
  have hB := (alloc_below w (.cells #[.int .i64 ep, .slice A n cap] 24)).alloc (by simp) (.cells x.arr 35)
  have B0 := Lib.hid ((Box.start w ep A n cap).later (alloc_below _ (.cells x.arr 35)))
  have h1 : (256 : Int) < n := by omega
  clear hl
  go_enter Try.func4, Try.ntmps4
  go_wp2_with fail
  refine (alive_any _).mono ?_
  rintro e w1 ⟨rfl, hb1⟩
  obtain ⟨c0, c1, -⟩ := B0.out.later hb1
  go_wp2_with fail
  go_ret
  exact ⟨rfl, hB.trans (hb1.mono (by simp; omega))⟩

/-- the member that stands in the spare room -/
def m71 : Mb := ⟨71, Kb.zero⟩
theorem m71_ok : m71.ok := ⟨Kb.zero_ok, by decide⟩
/-- members, appended to none -/
theorem full_one {w : World} {A : Option Addr} {n : Nat} {ms : List Mb} (cap : Nat) (h : MS w A n ms) (hn : n ≤ 256) : ∃ v' w1,
    (apRow #[22, 22] 22 #[.slice (some ⟨w.heap.size, 0, none⟩) 0 0, .slice A n cap]).run Try.prog (w.alloc (.cells #[] 37)) = .ok v' w1 ∧
    w1.ownsRow w.heap.size 37 34 v' n (flatC Mb.cells ms) ∧ Below w.heap.size w w1 ∧ w.heap.size < w1.heap.size := by
  obtain ⟨i0, hi, hz0, hz1, hz2⟩ := info_parts infoM
  have hok : OkAll ms := h.ok
  have hown : (w.alloc (.cells #[] 37)).ownsRow w.heap.size 37 34 (.slice (some ⟨w.heap.size, 0, none⟩) 0 0) 0 [] := World.ownsRow_made w #[] 0 (Nat.le_refl _) (by decide) rfl
  cases A with
  | none =>
    have hn0 : n = 0 := by
      rcases Nat.eq_zero_or_pos n with h0 | h0
      · exact h0
      · obtain ⟨_, _, hA, _⟩ := h.mem h0; cases hA
    subst hn0
    have hms : ms = [] := List.eq_nil_of_length_eq_zero h.len
    subst hms
    refine ⟨_, _, ?_, hown, (Below.refl _ _).alloc (Nat.le_refl _) _, by simp⟩
    simp [apRow, Builtin.append_, run_underlying Try.underlying22, sizeOf, typeInfo, hi, Builtin.lenOf, Builtin.firstCells, storeCells]
  | some ad =>
    have hnews : ∀ j u, (flatC Mb.cells ms)[j]? = some u → (w.alloc (.cells #[] 37)).cell? (ad.add j) = some u := by
      intro j u hu
      rcases Nat.eq_zero_or_pos n with h0 | h0
      · have hms : ms = [] := List.eq_nil_of_length_eq_zero (by rw [h.len]; exact h0)
        subst hms
        simp [flatC] at hu
      · obtain ⟨b, off, hA, -⟩ := h.mem h0
        cases hA
        have h1 := h.news rfl 0 (by omega) j u hu
        rw [Nat.zero_mul, Nat.add_zero] at h1
        rw [Addr.add_mid] at h1 ⊢
        rw [World.cell?_alloc_lt _ _ _ (World.block_lt_of_cell? w _ h1)]
        exact h1
    obtain ⟨v', w1, hrun, hown1, hgrow, _, hat⟩ := run_append_own_at (P := Try.prog) (w.alloc (.cells #[] 37)) w.heap.size 22 22 37 i0 (.agg Mb.zero.arr) 34 48 Try.underlying22 hi hz0 hz1 hz2 (Mb.size Mb.zero_ok) (by decide)
      (.slice (some ⟨w.heap.size, 0, none⟩) 0 0) 0 [] hown ad n cap (flatC Mb.cells ms) (by rw [flatC_length hok.len, h.len]) hnews
      (flatM_ones ms) (by simp only [maxLen]; omega) (by omega) (by simp)
    refine ⟨v', w1, hrun, by simpa using hown1, ((Below.refl _ _).alloc (Nat.le_refl _) _).grown hgrow (by simp) (fun k hk => by simp [Value.ownBlock] at hk; omega), ?_⟩
    have := hgrow.size
    simp at this; omega
/-- .. and one more behind them -/
theorem full_two {w w1 : World} {v : Value} {n : Nat} {ms : List Mb} (hown : w1.ownsRow w.heap.size 37 34 v n (flatC Mb.cells ms)) (hb : Below w.heap.size w w1) (hok : OkAll ms) (hn : n ≤ 256) : ∃ g cap w2,
    (apRow #[22, 22] 22 #[v, .slice (some ⟨w1.heap.size, 0, none⟩) 1 1]).run Try.prog (w1.alloc (.cells m71.arr 37)) = .ok (.slice (some ⟨g, 0, none⟩) (n + 1) cap) w2 ∧
    w2.ownsRow w.heap.size 37 34 (.slice (some ⟨g, 0, none⟩) (n + 1) cap) (n + 1) (flatC Mb.cells (ms ++ [m71])) ∧ Below w.heap.size w w2 ∧ n + 1 ≤ cap := by
  obtain ⟨i0, hi, hz0, hz1, hz2⟩ := info_parts infoM
  have hown' : (w1.alloc (.cells m71.arr 37)).ownsRow w.heap.size 37 34 v n (flatC Mb.cells ms) := by
    exact hown.alloc _
  have hnews : ∀ j u, (flatC Mb.cells [m71])[j]? = some u → (w1.alloc (.cells m71.arr 37)).cell? ((⟨w1.heap.size, 0, none⟩ : Addr).add j) = some u := by
    intro j u hu
    rw [flatC_one] at hu
    rw [Addr.add_mid, Nat.zero_add, World.cell?_alloc_at _ _ _ _ rfl]
    simpa [Mb.arr] using hu
  obtain ⟨v', w2, hrun, hown2, hgrow, _, hat⟩ := run_append_own_at (P := Try.prog) (w1.alloc (.cells m71.arr 37)) w.heap.size 22 22 37 i0 (.agg Mb.zero.arr) 34 48 Try.underlying22 hi hz0 hz1 hz2 (Mb.size Mb.zero_ok) (by decide)
    v n (flatC Mb.cells ms) hown' ⟨w1.heap.size, 0, none⟩ 1 1 (flatC Mb.cells [m71]) (by rw [flatC_one, Mb.len m71_ok]) hnews
    (flatM_ones _) (by simp only [maxLen]; omega) (by omega) (by have := hb.size; simp; omega)
  rw [← flatC_append] at hown2
  have hB2 : Below w.heap.size w w2 := (hb.alloc hb.size _).grown hgrow (by have := hb.size; simp; omega) (fun k hk => by
    rcases hown.2 with ⟨rfl, -⟩ | ⟨g, cap, cur, rfl, hg, -⟩
    · cases hk
    · simp [Value.ownBlock] at hk; omega)
  rcases hown2.2 with ⟨-, h0⟩ | ⟨g, cap, cur, rfl, hg, hh, hnc, r⟩
  · omega
  · exact ⟨g, cap, w2, hrun, hown2, hB2, hnc⟩

theorem MS.front {w : World} {A : Option Addr} {n : Nat} {ms : List Mb} {m : Mb} (h : MS w A (n + 1) (ms ++ [m])) (hl : ms.length = n) : MS w A n ms ∧ ∃ b off, A = some ⟨b, off, none⟩ ∧ b < w.heap.size ∧ rowAt w b (off + n * 34) 34 = some m.arr := by
  obtain ⟨b, off, hA, hlt, hr⟩ := h.mem (by omega)
  refine ⟨⟨hl, by have := h.small; omega, fun k hk => h.ok k (by simp [hk]), fun _ => ⟨b, off, hA, hlt, fun i hi => ?_⟩⟩, b, off, hA, hlt, ?_⟩
  · rw [hr i (by omega)]
    congr 2
    rw [List.getD_eq_getElem?_getD, List.getD_eq_getElem?_getD, List.getElem?_append_left (by omega)]
  · rw [hr n (by omega)]
    congr 2
    rw [List.getD_eq_getElem?_getD, List.getElem?_append_right (by omega), hl, Nat.sub_self]
    rfl

/-- what a change answered: its cells may be written -/
def Mine (B : Nat) (A : Option Addr) (n : Nat) (w : World) : Prop :=
  0 < n → ∃ g cap cur, A = some ⟨g, 0, none⟩ ∧ B ≤ g ∧ w.heap[g]? = some (.cells cur 37 (0, 0)) ∧ n ≤ cap ∧ cur.size = cap * 34
theorem mine_of {w : World} {B n : Nat} {v : Value} {xs : List Value} (h : w.ownsRow B 37 34 v n xs) : ∃ A cap, v = .slice A n cap ∧ Mine B A n w := by
  rcases h.2 with ⟨rfl, h0⟩ | ⟨g, cap, cur, rfl, hg, hh, hnc, -, hcs, -⟩
  · subst h0
    exact ⟨none, 0, rfl, fun h => absurd h (by decide)⟩
  · exact ⟨_, cap, rfl, fun _ => ⟨g, cap, cur, rfl, hg, hh, hnc, hcs⟩⟩
theorem Mine.alloc {w : World} {B n : Nat} {A : Option Addr} (h : Mine B A n w) (o : Obj) : Mine B A n (w.alloc o) := fun h0 => by
  obtain ⟨g, cap, cur, hA, hg, hh, r⟩ := h h0
  exact ⟨g, cap, cur, hA, hg, by rw [Below.heap_alloc w o g (Array.getElem?_eq_some_iff.1 hh).1]; exact hh, r⟩
theorem Mine.at {w : World} {B n : Nat} {A : Option Addr} (h : Mine B A n w) {i : Nat} (hi : i < n) : ∃ g u, A = some ⟨g, 0, none⟩ ∧ B ≤ g ∧ g < w.heap.size ∧ w.cell? ⟨g, i * 34, none⟩ = some u ∧ w.frozen? ⟨g, i * 34, none⟩ = false ∧ ∀ v, Mine B A n (w.setCell ⟨g, i * 34, none⟩ v) := by
  obtain ⟨g, cap, cur, hA, hg, hh, hnc, hcs⟩ := h (by omega)
  have hlt : i * 34 < cur.size := by rw [hcs]; omega
  refine ⟨g, cur[i * 34], hA, hg, (Array.getElem?_eq_some_iff.1 hh).1, ?_, frozen_of_row w g _ cur 37 hh, fun v _ => ⟨g, cap, _, hA, hg, heap_setCell_same w g _ cur 37 v hh, hnc, by simpa using hcs⟩⟩
  simp [World.cell?, hh, hlt]
theorem Box.set {B : Nat} {ep : Int} {A : Option Addr} {n cap : Nat} {w : World} (b : Box B ep A n cap w) {a : Addr} (h : B ≠ a.block) (v : Value) : Box B ep A n cap (w.setCell a v) :=
  ⟨by rw [cell_alike (heap_setCell_other w a B v h)]; exact b.c0, by rw [cell_alike (heap_setCell_other w a B v h)]; exact b.c1, by simpa [World.setCell] using b.hi⟩
theorem below_drew {B : Nat} {w w' : World} (h : Below B w w') : Below B w w'.drew := h.drew

set_option maxRecDepth 4000 in
set_option maxHeartbeats 4000000 in
theorem keeps_near (ep : Int) (A : Option Addr) (n cap : Nat) (x : Chg) (ms : List Mb) (w : World) (h : MS w A n ms) (hl : n ≤ 256) (hx : x.ok) :
    Calls Try.prog 4 #[.agg #[.int .i64 ep, .slice A n cap], .agg x.arr] w fun e w' => e = .returned (.bool true) ∧ Below w.heap.size w w' := by
  have hB := (alloc_below w (.cells #[.int .i64 ep, .slice A n cap] 24)).alloc (by simp) (.cells x.arr 35)
  have B0 := Lib.hid ((Box.start w ep A n cap).later (alloc_below _ (.cells x.arr 35)))
  have H := Lib.hid (h.below hB)
  have rk := Lib.hid (row_alloc (w.alloc (.cells #[.int .i64 ep, .slice A n cap] 24)) x.arr 35 (Chg.sz hx))
  have h1 : ¬ (256 : Int) < n := by omega
  have hxx := Lib.hid hx
  have HL := Lib.hid h.len
  have hok := Lib.hid (show OkAll ms from h.ok)
  have hn256 := Lib.hid hl
  clear h hl hx
  go_enter Try.func4, Try.ntmps4
  go_wp2_with fail
  refine (alive_any _).mono ?_
  rintro e w1 ⟨rfl, hb1⟩
  have H1 := Lib.hid (H.out.below hb1)
  have B1 := Lib.hid (B0.out.later hb1)
  have i1 := Lib.hid (since hB (by simp; omega) hb1)
  obtain ⟨c0, c1, ch⟩ := B1.out
  have rk1 := Lib.hid ((rowAt_below hb1 (b := w.heap.size + 1) (by simp) 0 36).trans (by have := rk.out; simpa using this))
  have hw1 : w.heap.size + 1 < w1.heap.size := by have := hb1.size; simp at this; omega
  obtain ⟨v1, wa, hrun1, hown1, hba, hsa⟩ := full_one cap H1.out hn256.out
  obtain ⟨g, cap2, wb, hrun2, hown2, hbb, hcap⟩ := full_two hown1 hba hok.out hn256.out
  have hbs := bs_M1 m71_ok wa
  simp only [m71] at hrun2 hbs
  have Bb := Lib.hid (B1.out.later hbb)
  obtain ⟨d0, d1, dh⟩ := Bb.out
  have HO := Lib.hid hown2
  have rkb := Lib.hid ((rowAt_below hbb (b := w.heap.size + 1) hw1 0 36).trans rk1.out)
  have ib := Lib.hid (since i1.out.1 i1.out.2 hbb)
  have hcap' : (n : Int) ≤ cap2 := by omega
  clear hown1 hown2
  go_wp2_with fail
  go_region
  have hbc : Below wb.heap.size wb (wb.alloc (.cells #[.int .i64 ep, .slice (some ⟨g, 0, none⟩) n cap2] 24)).drew := (alloc_below _ _).drew
  obtain ⟨Af, capf, hvf, Mf⟩ := MS_of_own HO.out (fun m hm => (List.mem_append.1 hm).elim (hok.out m) (fun h => by rw [List.mem_singleton] at h; rw [h]; exact m71_ok)) (by have := hn256.out; omega)
  cases hvf
  obtain ⟨Mc, b', o', hA', hlt', r71⟩ := Mf.front HL.out
  cases hA'
  have Mc := Lib.hid (Mc.below hbc)
  have R71 := Lib.hid ((rowAt_below hbc hlt' _ _).trans r71)
  have Xc := Lib.hid (show Box wb.heap.size ep (some ⟨g, 0, none⟩) n cap2 (wb.alloc (.cells #[.int .i64 ep, .slice (some ⟨g, 0, none⟩) n cap2] 24)).drew from ⟨(Box.start wb ep _ n cap2).c0, (Box.start wb ep _ n cap2).c1, (Box.start wb ep _ n cap2).hi⟩)
  have Bc := Lib.hid (Bb.out.later hbc)
  have Hc := Lib.hid ((H1.out.below hbb).below hbc)
  have rkc := (rowAt_below hbc (b := w.heap.size + 1) (by have := hbb.size; omega) 0 36).trans rkb.out
  have ic := Lib.hid (since ib.out.1 ib.out.2 hbc)
  have hgW : g < (wb.alloc (.cells #[.int .i64 ep, .slice (some ⟨g, 0, none⟩) n cap2] 24)).drew.heap.size := Nat.lt_of_lt_of_le hlt' hbc.size
  obtain ⟨x0, x1, xh⟩ := Xc.out
  clear d0 d1 c0 c1 hrun1 hrun2 hbs Mf r71 hbc HO hba hsa hcap hcap' hlt'
  generalize (wb.alloc (.cells #[.int .i64 ep, .slice (some ⟨g, 0, none⟩) n cap2] 24)).drew = W at *
  go_wp2_with fail
  refine (apply_any ep _ n cap2 ms x _ Mc.out hxx.out).mono fun e w2 h2 => ?_
  have hlen := appR_len ep ms x
  rw [HL.out] at hlen
  obtain ⟨v9, rfl, hown9, -, hb9⟩ := h2
  generalize appR ep ms x = L at *
  generalize appE ep ms x = E
  generalize (if E = 0 then ep + 1 else 0) = e9
  obtain ⟨n9, hn9⟩ : ∃ k, L.length = k := ⟨_, rfl⟩
  rw [hn9] at hown9 hlen
  obtain ⟨A9, cap9, rfl, M2⟩ := mine_of hown9
  have hn9b : n9 ≤ 257 := by have := hn256.out; omega
  have hb10 := Lib.hid (hb9.alloc hb9.size (.cells #[.int .i64 e9, .slice A9 n9 cap9] 24))
  have Mi := Lib.hid (M2.alloc (.cells #[.int .i64 e9, .slice A9 n9 cap9] 24))
  have X9 := Lib.hid (Box.start w2 e9 A9 n9 cap9)
  have M2 := Lib.hid M2
  obtain ⟨q0, q1, qh⟩ := X9.out
  clear hown9 hn9 hlen x0 x1 rkc
  go_wp2_with fail
  generalize hW3 : w2.alloc (.cells #[.int .i64 e9, .slice A9 n9 cap9] 24) = W3 at *
  clear hW3 q0 q1
  go_loopw [40] (fun t wr => ∃ k : Nat, k ≤ n9 ∧ t = .int .i64 k ∧ Below W.heap.size W wr ∧ Box w2.heap.size e9 A9 n9 cap9 wr ∧ Mine W.heap.size A9 n9 wr) (fun t _ => n9 - (intOf t).toNat)
  case atStart => exact ⟨0, by omega, rfl, hb10.out, X9.out, Mi.out⟩
  case round =>
    obtain ⟨k, hk', rfl, hbw, Xr, Mr⟩ := hrel
    by_cases hlt : k < n9
    · obtain ⟨g9, u, hA9, hge, hgl, hcell, hfz, hset⟩ := Mr.at hlt
      have hg2 : g9 < w2.heap.size := by
        obtain ⟨g9', _, hA9', _, h2, _⟩ := M2.out.at hlt
        rw [hA9] at hA9'; cases hA9'; exact h2
      subst hA9
      have hS := Lib.hid (hset (.int .i64 99))
      have hbn := Lib.hid (hbw.setCell (p := ⟨g9, k * 34, none⟩) hge (.int .i64 99))
      have hXn := Lib.hid (Xr.set (a := ⟨g9, k * 34, none⟩) (by show w2.heap.size ≠ g9; omega) (.int .i64 99))
      obtain ⟨q0, q1, -⟩ := Xr
      have hk0 : (0 : Int) ≤ k := by omega
      have hk1 : (k : Int) < n9 := by omega
      have hn9i : (n9 : Int) ≤ 257 := by omega
      clear hset hbw Mr hge hgl hg2
      go_wp2_with fail
      go_roundw
      case rel => exact ⟨k + 1, by omega, by go_num, hbn.out, hXn.out, hS.out⟩
      case measure => simp [intOf]; omega
    · have Mw := Lib.hid (Mc.out.below hbw)
      have Hw := Lib.hid (Hc.out.below hbw)
      have Xw := Lib.hid (Xc.out.later hbw)
      have Bw := Lib.hid (Bc.out.later hbw)
      have Rw := Lib.hid ((rowAt_below hbw hgW _ _).trans R71.out)
      have iw := Lib.hid (since ic.out.1 ic.out.2 hbw)
      have hgw : g < wr.heap.size := Nat.lt_of_lt_of_le hgW hbw.size
      obtain ⟨x0, x1, -⟩ := Xw.out
      obtain ⟨c0, c1, -⟩ := Bw.out
      have HS := Lib.hid (show sameB ep ms ep ms = true by unfold sameB; simp)
      clear Xr Mr hbw
      go_wp2_with fail
      refine (same_any ep ep (some ⟨g, 0, none⟩) A n cap2 n cap ms ms _ Mw.out Hw.out).mono ?_
      rw [HS.out]
      rintro e w8 ⟨rfl, hb8⟩
      obtain ⟨y0, y1, -⟩ := Bw.out.later hb8
      have r8 := (rowAt_below hb8 hgw _ _).trans Rw.out
      have hne := run_eqRow m71_ok m71_ok
      simp only [decide_true] at hne
      simp only [m71, Nat.zero_add] at r8 hne
      have hn0 : (0 : Int) ≤ n := by omega
      have hn1 : (n : Int) < ((n + 1 : Nat) : Int) := by omega
      go_wp2_with fail
      go_ret
      exact ⟨rfl, (since iw.out.1 iw.out.2 hb8).1⟩

theorem keeps_walk (ep : Int) (A : Option Addr) (n cap : Nat) (x : Chg) (w : World) (we : (Lit.int .i64 ep).wf = true) (hn : n ≤ maxLen) (hm : n ≤ 140737488355328 → ∃ ms, MS w A n ms) (hx : x.ok) :
    Calls Try.prog 4 #[.agg #[.int .i64 ep, .slice A n cap], .agg x.arr] w fun e w' => e = .returned (.bool true) ∧ Below w.heap.size w w' := by
  by_cases hl : n ≤ 256
  · obtain ⟨ms, h⟩ := hm (by omega)
    exact keeps_near ep A n cap x ms w h hl hx
  · exact keeps_far ep A n cap hx w hl

set_option maxRecDepth 100000 in
theorem configKeeps_lifted (os : Os) (started : os.Started) (H : Type) (enc : TypeId × Value → H) :
    ReturnsInHanded {} Try.checked os 4 .any (Rows.configKeepsSpec.pre6 enc Try.prog Try.f4 Rows.configKeepsRow.domain false) (Rows.configKeepsSpec.post enc Try.prog Try.f4 false true false false) := by
  refine returnsInHanded_of_change (C := Try.checked) own started (by kernel_rfl) Try.func4
    (ChangeSpec.witness6 (enc := enc) (C := Try.checked) false ⟨#[], #[.agg #[.int .i64 0, .slice none 0 0], .agg Chg.zero.arr], []⟩ 8 (by kernel_rfl) (by kernel_rfl) (by kernel_rfl) (by kernel_rfl)) ?_
  intro W base args ds gs before hval0 hW hcnd _
  have hval : ∀ (j : Nat) t v, Try.f4.params[j]? = some t → args[j]? = some v → Value.okWide Try.prog W .any base t v := hval0
  have hW' := hW
  obtain ⟨p, q, hA0, hV, rfl, hfz, hnd⟩ := hW
  have hA : DataW.TrodAll enc Try.prog W 0 (fun _ => true) true Try.f4.params.toList args.toList ds p := hA0
  rw [Try.params4] at hA hval
  obtain ⟨v0, vs0, d0, ds0, p0, q0, hargs, rfl, rfl, h0, r0⟩ := trodAll_cons hA
  obtain ⟨v1, vs1, d1, ds1, p1, q1, rfl, rfl, rfl, h1, r1⟩ := trodAll_cons r0
  obtain ⟨rfl, rfl, rfl⟩ := trodAll_nil r1
  obtain rfl : args = #[v0, v1] := by cases args; simp_all
  obtain ⟨rfl, rfl⟩ := trodVars_none hV
  have k0 := h0
  have lt0 : ∀ x ∈ p0, x.block < W.heap.size := by obtain ⟨m, hm⟩ := k0; exact DataW.trod_lt m _ _ _ hm
  obtain ⟨e0, A0, n0, c0, rfl, we0, wn0, wm0⟩ := open_config (hval 0 24 v0 rfl rfl) h0
  have k1 := h1
  have lt1 : ∀ x ∈ p1, x.block < W.heap.size := by obtain ⟨m, hm⟩ := k1; exact DataW.trod_lt m _ _ _ hm
  obtain ⟨x1, rfl, wx1⟩ := open_change (hval 1 35 v1 rfl rfl) h1
  clear hA0 hval0
  refine (keeps_walk e0 A0 n0 c0 x1 W we0 wn0 wm0 wx1).mono fun e W' ⟨he, bel⟩ => ?_
  subst he
  exact ⟨_, rfl, _, _, _, [], _, [], hW', trodAll_mk1 (shut_bool Try.underlying4 _), (trodAll_cons_mk (Below.trod laidOut (by kernel_rfl) (of_decide_eq_true (by kernel_rfl)) k0 bel lt0) (trodAll_cons_mk (Below.trod laidOut (by kernel_rfl) (of_decide_eq_true (by kernel_rfl)) k1 bel lt1) trodAll_mk0)), rfl, bel.frame _, fun h => by cases h⟩

theorem configKeeps_holds : Rows.ConfigKeepsSaid :=
  OpenClaim.holds_of_wide 4 Try.f4 rfl rfl rfl rfl rfl rfl rfl ⟨rfl, rfl, rfl, rfl, rfl⟩ rfl rfl rfl rfl rfl (by kernel_rfl) Try.func4 (by kernel_rfl)
    (of_decide_eq_true (by kernel_rfl)) (by unfold Func.isWrapper; first | (rw [if_pos (by decide +kernel)]; kernel_rfl) | (rw [if_neg (by decide +kernel)]; exact ⟨rfl, rfl⟩))
    (fun os started H enc _ => configKeeps_lifted os started H enc)


end Go.Proofs.Ytmiaffgjfpjhfaa
