/-
What the document tells of orders: the walk.
-/
import Derived.Test.YtfnfgnhbnffagaaDoorZLin
import Derived.Test.YtfnfgnhbnffagaaDoorZAlp
namespace Go.Proofs.YtfnfgnhbnffagaaDoor
open Go.RowKit
set_option linter.unusedVariables false
set_option linter.unusedSimpArgs false
set_option maxRecDepth 100000
@[go_sem ↓] theorem bd_Op (ps : Array (Nat × Value)) : Instr.build 44 ps = bdRow 44 ps := rfl
theorem run_bdOp (w : World) (ps : Array (Nat × Value)) (cells : Array Value) (hf : Instr.fill ((#[(0, 1), (1, 1), (2, 1), (3, 1), (4, 36)] : Array (Nat × Nat))[·]?) (default : Opn).arr ps.toList = some cells) : (bdRow 44 ps).run Tryd.prog w = .ok (.agg cells) w :=
  run_build w 44 (default : Opn).arr cells _ _ ps (zv_Op w) Tryd.underlying44 (by kernel_rfl) hf
@[go_sem] theorem run_bdO2 (k : Int) (key : ByteArray) (w : World) : (bdRow 44 #[(0, .int .i64 k), (1, .string key)]).run Tryd.prog w = .ok (.agg (Opn.arr ⟨k, key, ByteArray.empty, ByteArray.empty, Chg.zero⟩)) w :=
  run_bdOp w _ _ (by kernel_rfl)
@[go_sem ↓] theorem bd_Request (ps : Array (Nat × Value)) : Instr.build 46 ps = bdRow 46 ps := rfl
theorem run_bdRq (w : World) (ps : Array (Nat × Value)) (cells : Array Value) (hf : Instr.fill ((#[(0, 1), (1, 1), (2, 40)] : Array (Nat × Nat))[·]?) (default : Rq).arr ps.toList = some cells) : (bdRow 46 ps).run Tryd.prog w = .ok (.agg cells) w :=
  run_build w 46 (default : Rq).arr cells _ _ ps (zv_Request w) Tryd.underlying46 (by kernel_rfl) hf
@[go_sem] theorem run_bdPut (w : World) : (bdRow 46 #[(0, .int .i64 1), (1, .int .i64 1), (2, .agg (Opn.arr ⟨2, ⟨#[97]⟩, ByteArray.empty, ByteArray.empty, Chg.zero⟩))]).run Tryd.prog w = .ok (.agg qPut.arr) w :=
  run_bdRq w _ _ (by kernel_rfl)
@[go_sem] theorem run_bdGet (w : World) : (bdRow 46 #[(0, .int .i64 2), (1, .int .i64 1), (2, .agg (Opn.arr ⟨1, ⟨#[97]⟩, ByteArray.empty, ByteArray.empty, Chg.zero⟩))]).run Tryd.prog w = .ok (.agg qGet.arr) w :=
  run_bdRq w _ _ (by kernel_rfl)
@[go_sem ↓] theorem bd_Event (ps : Array (Nat × Value)) : Instr.build 51 ps = bdRow 51 ps := rfl
theorem run_bdEv (w : World) (ps : Array (Nat × Value)) (cells : Array Value) (hf : Instr.fill ((#[(0, 42), (42, 4), (46, 1), (47, 1)] : Array (Nat × Nat))[·]?) Ev.zero.arr ps.toList = some cells) : (bdRow 51 ps).run Tryd.prog w = .ok (.agg cells) w :=
  run_build w 51 Ev.zero.arr cells _ _ ps (zv_Event w) Tryd.underlying51 (by kernel_rfl) hf
@[go_sem] theorem run_bdEPut (w : World) : (bdRow 51 #[(0, .agg qPut.arr), (1, .agg #[.int .i64 1, .int .i64 1, .int .i64 0, .slice none 0 0]), (3, .int .i64 1)]).run Tryd.prog w = .ok (.agg ePut.arr) w :=
  run_bdEv w _ _ (by kernel_rfl)
@[go_sem] theorem run_bdEGet (w : World) : (bdRow 51 #[(0, .agg qGet.arr), (1, .agg #[.int .i64 2, .int .i64 1, .int .i64 7, .slice none 0 0]), (2, .int .i64 2), (3, .int .i64 3)]).run Tryd.prog w = .ok (.agg eGet.arr) w :=
  run_bdEv w _ _ (by kernel_rfl)
theorem qPut_ok : qPut.ok := ⟨by decide, by decide, ⟨by decide, by decide, by decide, by decide, Chg.zero_ok⟩⟩
theorem qGet_ok : qGet.ok := ⟨by decide, by decide, ⟨by decide, by decide, by decide, by decide, Chg.zero_ok⟩⟩
theorem qPut_few : qPut.few := ⟨qPut_ok, by decide, by decide, by decide⟩
theorem qGet_few : qGet.few := ⟨qGet_ok, by decide, by decide, by decide⟩
theorem ePut_ok : ePut.ok := ⟨qPut_ok, ⟨by decide, by decide, by decide, fun x h => by cases h⟩, by decide, by decide⟩
theorem eGet_ok : eGet.ok := ⟨qGet_ok, ⟨by decide, by decide, by decide, fun x h => by cases h⟩, by decide, by decide⟩
theorem m1_ok : m1.ok := ⟨Kb.zero_ok, by decide⟩
theorem infoQ : (Tryd.prog.info? 46).map (fun i => (i.zero, i.size)) = some (some (.agg (default : Rq).arr), 42) := by kernel_rfl
theorem infoE : (Tryd.prog.info? 51).map (fun i => (i.zero, i.size)) = some (some (.agg Ev.zero.arr), 48) := by kernel_rfl
@[go_sem] theorem bs_Q2 (w : World) : (bsRow 29 2 #[(0, .agg qPut.arr), (1, .agg qGet.arr)]).run Tryd.prog w = .ok (.slice (some ⟨w.heap.size, 0, none⟩) 2 2) (w.alloc (.cells (flatC Rq.cells [qPut, qGet]).toArray 46)) := by
  have h0 := infoQ
  cases hq : Tryd.prog.info? 46 with
  | none => rw [hq] at h0; cases h0
  | some i0 =>
    rw [hq] at h0
    simp only [Option.map_some, Option.some.injEq, Prod.mk.injEq] at h0
    have := bs_row Tryd.underlying29 hq h0.1 h0.2 (by have := Rq.zero_sz; unfold SizeIs at this; exact this) (by decide) w [.agg qPut.arr, .agg qGet.arr]
      (by intro v hv; simp only [List.mem_cons, List.not_mem_nil, or_false] at hv; rcases hv with rfl | rfl; exact Rq.size qPut_ok; exact Rq.size qGet_ok) (by simp)
    simpa [Value.cells, Rq.arr, flatC] using this
@[go_sem] theorem bs_E2 (w : World) : (bsRow 30 2 #[(0, .agg ePut.arr), (1, .agg eGet.arr)]).run Tryd.prog w = .ok (.slice (some ⟨w.heap.size, 0, none⟩) 2 2) (w.alloc (.cells (flatC Ev.cells [ePut, eGet]).toArray 51)) := by
  have h0 := infoE
  cases hq : Tryd.prog.info? 51 with
  | none => rw [hq] at h0; cases h0
  | some i0 =>
    rw [hq] at h0
    simp only [Option.map_some, Option.some.injEq, Prod.mk.injEq] at h0
    have := bs_row Tryd.underlying30 hq h0.1 h0.2 (by have := Ev.zero_sz; unfold SizeIs at this; exact this) (by decide) w [.agg ePut.arr, .agg eGet.arr]
      (by intro v hv; simp only [List.mem_cons, List.not_mem_nil, or_false] at hv; rcases hv with rfl | rfl; exact Ev.size ePut_ok; exact Ev.size eGet_ok) (by simp)
    simpa [Value.cells, Ev.arr, flatC] using this
@[go_sem] theorem bs_E1 (w : World) : (bsRow 30 1 #[(0, .agg ePut.arr)]).run Tryd.prog w = .ok (.slice (some ⟨w.heap.size, 0, none⟩) 1 1) (w.alloc (.cells (flatC Ev.cells [ePut]).toArray 51)) := by
  have := bs_M1E ePut_ok w
  rw [show (flatC Ev.cells [ePut]).toArray = ePut.arr by simp [flatC, Ev.arr]]
  exact this
@[go_sem] theorem bs_M1' (w : World) : (bsRow 24 1 #[(0, .agg (Mb.arr ⟨1, Kb.zero⟩))]).run Tryd.prog w = .ok (.slice (some ⟨w.heap.size, 0, none⟩) 1 1) (w.alloc (.cells (flatC Mb.cells [m1]).toArray 60)) := by
  have := bs_M1 (m := ⟨1, Kb.zero⟩) m1_ok w
  rw [show (flatC Mb.cells [m1]).toArray = Mb.arr ⟨1, Kb.zero⟩ by simp [flatC, Mb.arr, m1]]
  exact this
/-- rows of what a text writes out -/
theorem es_new (es : List Ev) (n : Nat) (w : World) (hok : OkAllE es) (hl : es.length = n) (hn : n ≤ 1000) : ES (w.alloc (.cells (flatC Ev.cells es).toArray 51)) (some ⟨w.heap.size, 0, none⟩) n es := by
  have hg := heap_alloc_new w (.cells (flatC Ev.cells es).toArray 51)
  have hfl : (flatC Ev.cells es).length = n * 48 := by rw [flatC_length hok.len, hl]
  have h := own_of_block (B := 0) (n := n) (cap := n) (sz := 48) (Nat.zero_le _) hg (Nat.le_refl _) (by simp only [maxLen]; omega) (by simpa using hfl) (by rw [List.take_of_length_le (by simp [hfl])])
  obtain ⟨A, cap, hv, M⟩ := ES_of_own h hok (by omega)
  cases hv
  exact M
theorem qs_new (es : List Rq) (n : Nat) (w : World) (hok : OkAllQ es) (hl : es.length = n) (hn : n ≤ 1000) : QS (w.alloc (.cells (flatC Rq.cells es).toArray 46)) (some ⟨w.heap.size, 0, none⟩) n es := by
  have hg := heap_alloc_new w (.cells (flatC Rq.cells es).toArray 46)
  have hfl : (flatC Rq.cells es).length = n * 42 := by rw [flatC_length hok.len, hl]
  have h := own_of_block (B := 0) (n := n) (cap := n) (sz := 42) (Nat.zero_le _) hg (Nat.le_refl _) (by simp only [maxLen]; omega) (by simpa using hfl) (by rw [List.take_of_length_le (by simp [hfl])])
  obtain ⟨A, cap, hv, M⟩ := QS_of_own h hok (by omega)
  cases hv
  exact M
theorem ms_new (es : List Mb) (n : Nat) (w : World) (hok : OkAll es) (hl : es.length = n) (hn : n ≤ 1000) : MS (w.alloc (.cells (flatC Mb.cells es).toArray 60)) (some ⟨w.heap.size, 0, none⟩) n es := by
  have hg := heap_alloc_new w (.cells (flatC Mb.cells es).toArray 60)
  have hfl : (flatC Mb.cells es).length = n * 34 := by rw [flatC_length hok.len, hl]
  have h := own_of_block (B := 0) (n := n) (cap := n) (sz := 34) (Nat.zero_le _) hg (Nat.le_refl _) (by simp only [maxLen]; omega) (by simpa using hfl) (by rw [List.take_of_length_le (by simp [hfl])])
  obtain ⟨A, cap, hv, M⟩ := MS_of_own h hok (by omega)
  cases hv
  exact M
theorem okE2 : OkAllE [ePut, eGet] := fun m hm => by
  simp only [List.mem_cons, List.not_mem_nil, or_false] at hm
  rcases hm with rfl | rfl; exact ePut_ok; exact eGet_ok
theorem okE1 : OkAllE [ePut] := fun m hm => by
  simp only [List.mem_cons, List.not_mem_nil, or_false] at hm
  subst hm; exact ePut_ok
theorem okQ2 : OkAllQ [qPut, qGet] := fun m hm => by
  simp only [List.mem_cons, List.not_mem_nil, or_false] at hm
  rcases hm with rfl | rfl; exact qPut_ok; exact qGet_ok
theorem okM1 : OkAll [m1] := fun m hm => by
  simp only [List.mem_cons, List.not_mem_nil, or_false] at hm
  subst hm; exact m1_ok
theorem evs (w : World) (m : Ev) (h : m ∈ [ePut, eGet]) : EvS w m := by
  simp only [List.mem_cons, List.not_mem_nil, or_false] at h
  rcases h with rfl | rfl
  · exact ⟨⟨⟨rfl, by decide, fun h => absurd h (by decide)⟩, ⟨fun _ => rfl, fun h => absurd h (by decide)⟩, few_nil⟩, qPut_few⟩
  · exact ⟨⟨⟨rfl, by decide, fun h => absurd h (by decide)⟩, ⟨fun _ => rfl, fun h => absurd h (by decide)⟩, few_nil⟩, qGet_few⟩
theorem s0_fits : Fits 0 s0 := ⟨⟨by decide, fun p h => (by cases h), by decide, okM1, by decide⟩, by decide, fun d h => (by cases h)⟩
theorem s0_sts {w : World} {g : Nat} (h : MS w (some ⟨g, 0, none⟩) 1 [m1]) : StS w (.agg #[.slice none 0 0, .slice none 0 0, .int .i64 0, .slice (some ⟨g, 0, none⟩) 1 1]) [] [] 0 [m1] :=
  ⟨⟨none, 0, none, 0, some ⟨g, 0, none⟩, 1, rfl, ⟨rfl, by decide, fun m hm => (by cases hm), fun h => absurd h (by decide)⟩, ⟨fun _ => rfl, fun h => absurd h (by decide)⟩, ⟨rfl, by decide, fun m hm => (by cases hm), fun h => absurd h (by decide)⟩, ⟨fun _ => rfl, fun h => absurd h (by decide)⟩, h, ⟨fun h => (by cases h), fun _ a h => (by cases h; rfl)⟩, fun r hr => (by cases hr)⟩⟩
set_option maxHeartbeats 4000000 in
theorem alive_any (w : World) (hw : Pow w) : Calls Tryd.prog 6 #[] w fun e w' => e = .returned (.bool true) ∧ Below w.heap.size w w' := by
  have c1 := Ev.cutQ ePut_ok
  have c2 := Ev.cutQ eGet_ok
  have c3 := Ev.cut ePut_ok
  have c4 := Ev.cut eGet_ok
  have c5 := Ev.sz ePut_ok
  have c6 := Ev.sz eGet_ok
  have c7 := Ev.ones ePut
  have c8 := Ev.ones eGet
  rw [show ePut.q = qPut from rfl] at c1
  rw [show eGet.q = qGet from rfl] at c2
  have HW := Lib.hid hw
  clear hw
  go_enter Tryd.func6, Tryd.ntmps6
  go_wp2_with fail
  obtain ⟨wa, hwa⟩ : ∃ x, w.alloc (.cells (flatC Mb.cells [m1]).toArray 60) = x := ⟨_, rfl⟩
  obtain ⟨wb, hwb⟩ : ∃ x, wa.alloc (.cells #[.slice none 0 0, .slice none 0 0, .int .i64 0, .slice (some ⟨w.heap.size, 0, none⟩) 1 1] 28) = x := ⟨_, rfl⟩
  obtain ⟨wc, hwc⟩ : ∃ x, wb.alloc (.cells ePut.arr 51) = x := ⟨_, rfl⟩
  obtain ⟨wd, hwd⟩ : ∃ x, wc.alloc (.cells eGet.arr 51) = x := ⟨_, rfl⟩
  obtain ⟨we, hwe⟩ : ∃ x, wd.alloc (.cells (flatC Rq.cells [qPut, qGet]).toArray 46) = x := ⟨_, rfl⟩
  obtain ⟨wf, hwf⟩ : ∃ x, we.alloc (.cells (flatC Ev.cells [ePut, eGet]).toArray 51) = x := ⟨_, rfl⟩
  rw [hwa, hwb, hwc, hwd, hwe, hwf]
  have za : wa.heap.size = w.heap.size + 1 := by rw [← hwa]; simp
  have zb : wb.heap.size = w.heap.size + 2 := by rw [← hwb]; simp [za]
  have zc : wc.heap.size = w.heap.size + 3 := by rw [← hwc]; simp [zb]
  have zd : wd.heap.size = w.heap.size + 4 := by rw [← hwd]; simp [zc]
  have ze : we.heap.size = w.heap.size + 5 := by rw [← hwe]; simp [zd]
  have ba : Below w.heap.size w wa := by rw [← hwa]; exact (Below.refl _ _).alloc (Nat.le_refl _) _
  have bb : Below wa.heap.size wa wb := by rw [← hwb]; exact (Below.refl _ _).alloc (Nat.le_refl _) _
  have bc : Below wb.heap.size wb wc := by rw [← hwc]; exact (Below.refl _ _).alloc (Nat.le_refl _) _
  have bd : Below wc.heap.size wc wd := by rw [← hwd]; exact (Below.refl _ _).alloc (Nat.le_refl _) _
  have be : Below wd.heap.size wd we := by rw [← hwe]; exact (Below.refl _ _).alloc (Nat.le_refl _) _
  have bf : Below we.heap.size we wf := by rw [← hwf]; exact (Below.refl _ _).alloc (Nat.le_refl _) _
  have bdf : Below wd.heap.size wd wf := be.trans (bf.mono be.size)
  have bcf : Below wc.heap.size wc wf := bd.trans (bdf.mono bd.size)
  have bbf : Below wb.heap.size wb wf := bc.trans (bcf.mono bc.size)
  have baf : Below wa.heap.size wa wf := bb.trans (bbf.mono bb.size)
  have bwf : Below w.heap.size w wf := ba.trans (baf.mono ba.size)
  have M : MS wf (some ⟨w.heap.size, 0, none⟩) 1 [m1] := by
    have h := ms_new [m1] 1 w okM1 rfl (by decide)
    rw [hwa] at h
    exact h.below baf
  have Q : QS wf (some ⟨w.heap.size + 1 + 1 + 1 + 1, 0, none⟩) 2 [qPut, qGet] := by
    have h := qs_new [qPut, qGet] 2 wd okQ2 rfl (by decide)
    rw [hwe, zd] at h
    exact h.below bf
  have E2 : ES wf (some ⟨w.heap.size + 1 + 1 + 1 + 1 + 1, 0, none⟩) 2 [ePut, eGet] := by
    have h := es_new [ePut, eGet] 2 we okE2 rfl (by decide)
    rw [hwf, ze] at h
    exact h
  have g1 : wf.heap[w.heap.size + 1]? = some (.cells #[.slice none 0 0, .slice none 0 0, .int .i64 0, .slice (some ⟨w.heap.size, 0, none⟩) 1 1] 28 (0, 0)) := by
    rw [bbf.block _ (by omega), ← hwb, ← za]; exact heap_alloc_new wa _
  have g2 : wf.heap[w.heap.size + 2]? = some (.cells ePut.arr 51 (0, 0)) := by
    rw [bcf.block _ (by omega), ← hwc, ← zb]; exact heap_alloc_new wb _
  have g3 : wf.heap[w.heap.size + 3]? = some (.cells eGet.arr 51 (0, 0)) := by
    rw [bdf.block _ (by omega), ← hwd, ← zc]; exact heap_alloc_new wc _
  have zf : w.heap.size + 4 ≤ wf.heap.size := by have := bdf.size; omega
  clear hwa hwb hwc hwd hwe hwf za zb zc zd ze ba bb bc bd be bf bdf bcf bbf baf
  have hck := check_any (.agg #[.slice none 0 0, .slice none 0 0, .int .i64 0, .slice (some ⟨w.heap.size, 0, none⟩) 1 1]) [] [] 0 [m1] _ 2 2 [qPut, qGet] _ 2 2 [ePut, eGet] wf (s0_sts M) s0_fits (HW.out.below bwf) Q (fun q hq => by
    simp only [List.mem_cons, List.not_mem_nil, or_false] at hq
    rcases hq with rfl | rfl; exact qPut_few; exact qGet_few) E2 (fun m hm => evs wf m hm) (by decide) (by decide)
  have e9 : checkP ⟨[], ([] : List Rp).map Rp.d, 0, [m1]⟩ [qPut, qGet] [ePut, eGet] = 9 := check_two
  rw [e9] at hck
  refine hck.mono ?_
  rintro e wg ⟨rfl, hbg⟩
  have r1 : rowAt wg (w.heap.size + 1) 0 4 = some #[.slice none 0 0, .slice none 0 0, .int .i64 0, .slice (some ⟨w.heap.size, 0, none⟩) 1 1] := by unfold rowAt; rw [hbg.block _ (by omega), g1]; exact cut_all _ _ rfl
  have r2 : rowAt wg (w.heap.size + 1 + 1) 0 48 = some ePut.arr := by unfold rowAt; rw [hbg.block _ (by omega), g2]; exact c3
  have r3 : rowAt wg (w.heap.size + 1 + 1 + 1) 0 48 = some eGet.arr := by unfold rowAt; rw [hbg.block _ (by omega), g3]; exact c4
  have zg : w.heap.size + 4 ≤ wg.heap.size := Nat.le_trans zf hbg.size
  have HG := Lib.hid (And.intro (bwf.trans (hbg.mono bwf.size)) (M.below hbg))
  clear hck e9 Q E2 g1 g2 g3 zf M bwf hbg
  go_wp2_with fail
  have hE := es_new [ePut, eGet] 2 wg okE2 rfl (by decide)
  obtain ⟨wh, hwh⟩ : ∃ x, wg.alloc (.cells (flatC Ev.cells [ePut, eGet]).toArray 51) = x := ⟨_, rfl⟩
  have bh : Below wg.heap.size wg wh := by rw [← hwh]; exact (Below.refl _ _).alloc (Nat.le_refl _) _
  rw [hwh] at hE ⊢
  have hln := linear_any (.agg #[.slice none 0 0, .slice none 0 0, .int .i64 0, .slice (some ⟨w.heap.size, 0, none⟩) 1 1]) [] [] 0 [m1] (some ⟨wg.heap.size, 0, none⟩) 2 2 [ePut, eGet] wh (s0_sts (HG.out.2.below bh)) s0_fits (HW.out.below (HG.out.1.trans (bh.mono HG.out.1.size))) hE ⟨fun h => (by cases h), fun _ a h => (by cases h; rfl)⟩ (fun m hm => evs wh m hm) (by decide)
  have e2 : searchP 2 ⟨[], ([] : List Rp).map Rp.d, 0, [m1]⟩ [ePut, eGet] = false := linear_two
  rw [e2] at hln
  refine hln.mono ?_
  rintro e wi ⟨rfl, hbi⟩
  have bgi := bh.trans (hbi.mono bh.size)
  have r1' := (rowAt_below bgi (by omega) 0 4).trans r1
  have r2' := (rowAt_below bgi (by omega) 0 48).trans r2
  have HI := Lib.hid (And.intro (HG.out.1.trans (bgi.mono HG.out.1.size)) (HG.out.2.below bgi))
  clear hln e2 hE hwh bh hbi bgi r1 r2 r3 zg
  go_wp2_with fail
  have hE := es_new [ePut] 1 wi okE1 rfl (by decide)
  obtain ⟨wj, hwj⟩ : ∃ x, wi.alloc (.cells (flatC Ev.cells [ePut]).toArray 51) = x := ⟨_, rfl⟩
  have bj : Below wi.heap.size wi wj := by rw [← hwj]; exact (Below.refl _ _).alloc (Nat.le_refl _) _
  rw [hwj] at hE ⊢
  have hln := linear_any (.agg #[.slice none 0 0, .slice none 0 0, .int .i64 0, .slice (some ⟨w.heap.size, 0, none⟩) 1 1]) [] [] 0 [m1] (some ⟨wi.heap.size, 0, none⟩) 1 1 [ePut] wj (s0_sts (HI.out.2.below bj)) s0_fits (HW.out.below (HI.out.1.trans (bj.mono HI.out.1.size))) hE ⟨fun h => (by cases h), fun _ a h => (by cases h; rfl)⟩ (fun m hm => evs wj m (by simp only [List.mem_cons, List.not_mem_nil, or_false] at hm; subst hm; simp)) (by decide)
  have e2 : searchP 1 ⟨[], ([] : List Rp).map Rp.d, 0, [m1]⟩ [ePut] = true := linear_one
  rw [e2] at hln
  refine hln.mono ?_
  rintro e wk ⟨rfl, hbk⟩
  have HK := Lib.hid (HI.out.1.trans ((bj.trans (hbk.mono bj.size)).mono HI.out.1.size))
  clear hln e2 hE hwj bj hbk r1' r2'
  go_wp2_with fail
  go_ret
  exact ⟨rfl, HK.out⟩
end Go.Proofs.YtfnfgnhbnffagaaDoor
