/-
The library's Clone, Delete and Insert at members: what they make of a row.
-/
import Derived.Test.YtfnfgnhbnffagaaDoorZEv
import Derived.Test.YtfnfgnhbnffagaaDoorZRow
import Derived.StillTailTactics
import Derived.WalkSmall
import Derived.Lib.SliceRun
import Derived.Lib.Overlaps
namespace Go.Proofs.YtfnfgnhbnffagaaDoor
open Go.RowKit
set_option linter.unusedVariables false
set_option linter.unusedSimpArgs false
set_option maxRecDepth 100000
set_option maxRecDepth 100000

def OkAllE (ms : List Ev) : Prop := ∀ m ∈ ms, m.ok
theorem OkAllE.len {ms : List Ev} (h : OkAllE ms) : ∀ m ∈ ms, (Ev.cells m).length = 48 := fun m hm => Ev.len (h m hm)
theorem cells_onesE (m : Ev) : ∀ u ∈ m.cells, u.oneCell' = true := ev_ones m
theorem flatM_onesE (ms : List Ev) : ∀ u ∈ flatC Ev.cells ms, u.oneCell' = true := flatC_ones fun m _ => cells_onesE m
theorem infoME : (Tryd.prog.info? 51).map (fun i => (i.zero, i.size, i.bytes)) = some (some (.agg Ev.zero.arr), 48, 200) := by kernel_rfl

/-- the builtins at members, as the walk meets them -/
@[go_sem ↓] theorem ap_ME (ty : TypeId) (args : Array Value) : Builtin.append_ #[30, 30] ty args = apRow #[30, 30] ty args := rfl
@[go_sem ↓] theorem ap_MnE (ty : TypeId) (args : Array Value) : Builtin.append_ #[30, 3] ty args = apRow #[30, 3] ty args := rfl
@[go_sem ↓] theorem cp_ME (ty : TypeId) (args : Array Value) : Builtin.copy_ #[30, 30] ty args = cpRow #[30, 30] ty args := rfl
@[go_sem ↓] theorem cl_ME (ty : TypeId) (args : Array Value) : Builtin.clear_ #[30] ty args = clRow #[30] ty args := rfl
@[go_sem] theorem nil_ME (a : Option Addr) (l c : Nat) (w : World) : (binOp .eql 30 (.slice a l c) (.slice none 0 0)).run Tryd.prog w = .ok (.bool a.isNone) w := Lib.run_eql_slice_nil w 30 51 a l c 0 0 Tryd.underlying30
@[go_sem ↓] theorem bs_ME (n : Nat) (ps : Array (Nat × Value)) : Instr.buildSlice 30 n ps = bsRow 30 n ps := rfl
@[go_sem] theorem bs_M0E (w : World) : (bsRow 30 0 #[]).run Tryd.prog w = .ok (.slice (some ⟨w.heap.size, 0, none⟩) 0 0) (w.alloc (.cells #[] 51)) := by
  obtain ⟨i0, hi, hz0, hz1, hz2⟩ := info_parts infoME
  exact bs_row Tryd.underlying30 hi hz0 hz1 (Ev.size Ev.zero_ok) (by decide) w [] (by simp) (by simp)
theorem bs_M1E {m : Ev} (h : m.ok) (w : World) : (bsRow 30 1 #[(0, .agg m.arr)]).run Tryd.prog w = .ok (.slice (some ⟨w.heap.size, 0, none⟩) 1 1) (w.alloc (.cells m.arr 51)) := by
  obtain ⟨i0, hi, hz0, hz1, hz2⟩ := info_parts infoME
  have := bs_row Tryd.underlying30 hi hz0 hz1 (Ev.size Ev.zero_ok) (by decide) w [.agg m.arr] (by simp [Value.cells, Ev.size h]) (by simp)
  simpa [Value.cells] using this

/-- an owned row of members, read -/
theorem ES_of_own {w : World} {B n : Nat} {v : Value} {ms : List Ev} (h : w.ownsRow B 51 48 v n (flatC Ev.cells ms)) (hok : OkAllE ms) (hs : n ≤ 140737488355328) : ∃ A cap, v = .slice A n cap ∧ ES w A n ms := by
  have hl : ms.length = n := by
    have := h.1
    rw [flatC_length hok.len] at this
    omega
  rcases h.2 with ⟨rfl, rfl⟩ | ⟨g, cap, cur, rfl, hb, hg, hn, hm, hcs, hx⟩
  · exact ⟨none, 0, rfl, ⟨hl, hs, hok, fun h => by omega⟩⟩
  · refine ⟨_, cap, rfl, ⟨hl, hs, hok, fun h0 => ⟨g, 0, rfl, (Array.getElem?_eq_some_iff.1 hg).1, fun i hi => ?_⟩⟩⟩
    have h1 := flatC_at hok.len (i := i) (by omega)
    rw [← hx] at h1
    unfold rowAt
    rw [hg]
    show cut cur (0 + i * 48) 48 = _
    unfold cut
    rw [if_pos (by rw [hcs]; omega)]
    congr 1
    apply Array.ext'
    show (cur.extract (0 + i * 48) (0 + i * 48 + 48)).toList = (ms.getD i default).cells
    rw [← h1, Array.toList_extract, Nat.zero_add, List.extract_eq_take_drop, List.drop_take]
    rw [List.take_take]
    congr 1
    omega
/-- members that are read: their cells, one by one -/
theorem ES.news {w : World} {A : Option Addr} {n : Nat} {ms : List Ev} (h : ES w A n ms) {b off : Nat} (hA : A = some ⟨b, off, none⟩) (i : Nat) (hi : i ≤ n) : ∀ j u, (flatC Ev.cells (ms.drop i))[j]? = some u → w.cell? ((⟨b, off + i * 48, none⟩ : Addr).add j) = some u := by
  intro j u hu
  have hok : OkAllE ms := h.ok
  rw [← flatC_drop hok.len (by rw [h.len]; exact hi), List.getElem?_drop] at hu
  have hlt : i * 48 + j < n * 48 := by
    have := (List.getElem?_eq_some_iff.1 hu).1
    rw [flatC_length hok.len, h.len] at this
    exact this
  have hq : (i * 48 + j) / 48 < n := by omega
  obtain ⟨b', off', e, hb, hm⟩ := h.mem (by omega)
  rw [hA] at e
  injection e with e
  injection e with e1 e2 _
  subst e1; subst e2
  have h1 := hm ((i * 48 + j) / 48) hq
  have h2 := flatC_at hok.len (i := (i * 48 + j) / 48) (by rw [h.len]; exact hq)
  have h3 : ((ms.getD ((i * 48 + j) / 48) default).arr)[(i * 48 + j) % 48]? = some u := by
    show ((ms.getD ((i * 48 + j) / 48) default).cells.toArray)[(i * 48 + j) % 48]? = some u
    rw [List.getElem?_toArray, ← h2, List.getElem?_take, if_pos (Nat.mod_lt _ (by decide)), List.getElem?_drop, ← hu]
    congr 1
    omega
  have h4 := cell_of_rowAt h1 _ _ h3
  rw [Addr.add_mid, ← h4]
  congr 2
  omega

/-- what Clone answers: a row of one's own -/
def ClonedE (ms : List Ev) (n : Nat) (w : World) (e : Ending) (w' : World) : Prop :=
  ∃ v, e = .returned v ∧ w'.ownsRow w.heap.size 51 48 v n (flatC Ev.cells ms) ∧ Below w.heap.size w w'

set_option maxHeartbeats 1000000 in
theorem clone_anyE (A : Option Addr) (n cap : Nat) (ms : List Ev) (w : World) (h : ES w A n ms) (hb : n * 200 ≤ 140737488355328) (hA : A = none → n = 0) (hs : ∀ a, A = some a → a.spot = none) :
    Calls Tryd.prog 36 #[.slice A n cap] w (ClonedE ms n w) := by
  cases A with
  | none =>
    obtain rfl := hA rfl
    have hms : ms = [] := List.eq_nil_of_length_eq_zero h.len
    subst hms
    clear hA h hs
    go_enter Tryd.func36, Tryd.ntmps36
    go_wp2_with fail
    go_ret
    exact ⟨_, rfl, World.ownsRow_nil _ _ _ _, Below.refl _ _⟩
  | some ad =>
    obtain ⟨b, off, sp⟩ := ad
    obtain rfl : sp = none := hs _ rfl
    have hok : OkAllE ms := h.ok
    have hlen := h.len
    obtain ⟨i0, hi, hz0, hz1, hz2⟩ := info_parts infoME
    have hown : (w.alloc (.cells #[] 51)).ownsRow w.heap.size 51 48 (.slice (some ⟨w.heap.size, 0, none⟩) 0 0) 0 [] := World.ownsRow_made w #[] 0 (Nat.le_refl _) (by decide) rfl
    obtain ⟨v', w1, hrun, hown1, hgrow, _, hat⟩ := run_append_own_at (P := Tryd.prog) (w.alloc (.cells #[] 51)) w.heap.size 30 30 51 i0 (.agg Ev.zero.arr) 48 200 Tryd.underlying30 hi hz0 hz1 hz2 (Ev.size Ev.zero_ok) (by decide)
      (.slice (some ⟨w.heap.size, 0, none⟩) 0 0) 0 [] hown ⟨b, off, none⟩ n cap (flatC Ev.cells ms) (by rw [flatC_length hok.len, hlen])
      (fun j u hu => by
        have h1 := h.news rfl 0 (by omega) j u hu
        rw [Nat.zero_mul, Nat.add_zero] at h1
        rw [Addr.add_mid] at h1 ⊢
        rw [World.cell?_alloc_lt _ _ _ (World.block_lt_of_cell? w _ h1)]
        exact h1)
      (flatM_onesE ms) (by have := h.small; simp only [maxLen]; omega) (by omega) (by simp)
    have hr : (apRow #[30, 30] 30 #[.slice (some ⟨w.heap.size, 0, none⟩) 0 0, .slice (some ⟨b, off, none⟩) n cap]).run Tryd.prog (w.alloc (.cells #[] 51)) = .ok v' w1 := hrun
    have hB : Below w.heap.size w w1 := ((Below.refl _ _).alloc (Nat.le_refl _) _).grown hgrow (by simp) (fun k hk => by simp [Value.ownBlock] at hk; omega)
    have H1 := Lib.hid hown1
    clear hA hs h hown hrun hown1 hgrow hat hi hz0 hz1 hz2 hok hlen
    go_enter Tryd.func36, Tryd.ntmps36
    go_wp2_with fail
    go_ret
    exact ⟨_, rfl, by simpa using H1.out, hB⟩

/-- a member is taken out -/
theorem eraseIdx_eqE (ms : List Ev) (i : Nat) : ms.eraseIdx i = ms.take i ++ ms.drop (i + 1) := List.eraseIdx_eq_take_drop_succ ..

/-- what Delete answers: the same row without a member -/
def DeletedE (ms : List Ev) (i n B : Nat) (v : Value) (w : World) (e : Ending) (w' : World) : Prop :=
  ∃ v', e = .returned v' ∧ w'.ownsRow B 51 48 v' (n - 1) (flatC Ev.cells (ms.eraseIdx i)) ∧ v'.ownBlock = v.ownBlock ∧ w.grownBy w' v.ownBlock

theorem deleted_ofE {B p i g cap : Nat} {cur : Array Value} {ms : List Ev} {w w1 : World} (hok : OkAllE ms) (hl : ms.length = p + 1) (hi : i ≤ p) (hb : B ≤ g) (hg : w.heap[g]? = some (.cells cur 51 (0, 0))) (hnc : p + 1 ≤ cap) (hm : cap ≤ maxLen) (hcs : cur.size = cap * 48)
    (hx : cur.toList.take ((p + 1) * 48) = flatC Ev.cells ms) (zs : List Value) (hz : zs.length = 48) (hw1 : w.grownBy w1 (some g)) (hg1 : ∃ c0, w1.heap[g]? = some (.cells c0 51 (0, 0))) :
    DeletedE ms i (p + 1) B (.slice (some ⟨g, 0, none⟩) (p + 1) cap) w (.returned (.slice (some ⟨g, 0, none⟩) p cap)) (w1.setRow g (spl (spl cur (i * 48) (flatC Ev.cells (ms.drop (i + 1)))) (p * 48) zs)) := by
  obtain ⟨c0, hg1⟩ := hg1
  have hlen : (flatC Ev.cells (ms.drop (i + 1))).length = (p - i) * 48 := by
    rw [flatC_length (fun m hm => hok.len m (List.mem_of_mem_drop hm)), List.length_drop, hl]
    congr 1
    omega
  have h1 : i * 48 + (flatC Ev.cells (ms.drop (i + 1))).length ≤ cur.size := by rw [hlen, hcs]; omega
  have h2 : (spl cur (i * 48) (flatC Ev.cells (ms.drop (i + 1)))).size = cur.size := spl_size h1
  have h3 : p * 48 + zs.length ≤ (spl cur (i * 48) (flatC Ev.cells (ms.drop (i + 1)))).size := by rw [h2, hcs, hz]; omega
  refine ⟨_, rfl, own_of_block hb (setRow_heap w1 g c0 _ 51 (0, 0) hg1) (by omega) hm (by rw [spl_size h3, h2, hcs]) ?_, rfl, grown_setRow hw1 _⟩
  rw [spl_take_le h3 (Nat.le_refl _), show p * 48 = i * 48 + (flatC Ev.cells (ms.drop (i + 1))).length by rw [hlen]; omega, spl_take_end h1, eraseIdx_eqE, flatC_append]
  congr 1
  rw [← flatC_take hok.len (by omega), ← hx, List.take_take, Nat.min_eq_left (by omega)]

theorem zeros_ME : ∃ zs, (Builtin.zeroCells (Value.agg Ev.zero.arr).cells 1).toList = zs ∧ zs.length = 48 ∧ ∀ u ∈ zs, u.oneCell' = true :=
  ⟨Ev.zero.cells, by kernel_rfl, by decide, cells_onesE _⟩

set_option maxHeartbeats 2000000 in
theorem delete_anyE {B n i : Nat} {v : Value} {ms : List Ev} {w : World} (h : w.ownsRow B 51 48 v n (flatC Ev.cells ms)) (hok : OkAllE ms) (hn : n ≤ 4611686018427387904) (hi : i < n) :
    Calls Tryd.prog 35 #[v, .int .i64 (i : Int), .int .i64 ((i : Int) + 1)] w (DeletedE ms i n B v w) := by
  have hl : ms.length = n := by
    have := h.1
    rw [flatC_length hok.len] at this
    omega
  obtain ⟨p, rfl⟩ : ∃ p, n = p + 1 := ⟨n - 1, by omega⟩
  rcases h.2 with ⟨_, h0⟩ | ⟨g, cap, cur, rfl, hb, hg, hnc, hm, hcs, hx⟩
  · omega
  · have hm' : cap ≤ 9223372036854775807 := by simpa [maxLen] using hm
    obtain ⟨i0, hi0, hz0, hz1, hz2⟩ := info_parts infoME
    obtain ⟨zs, hzs1, hzs2, hzs3⟩ := zeros_ME
    have hlen : (flatC Ev.cells (ms.drop (i + 1))).length = (p - i) * 48 := by
      rw [flatC_length (fun m hm => hok.len m (List.mem_of_mem_drop hm)), List.length_drop, hl]
      congr 1
      omega
    have h1 : i * 48 + (flatC Ev.cells (ms.drop (i + 1))).length ≤ cur.size := by rw [hlen, hcs]; omega
    have h2 : (spl cur (i * 48) (flatC Ev.cells (ms.drop (i + 1)))).size = cur.size := spl_size h1
    have h3 : p * 48 + zs.length ≤ (spl cur (i * 48) (flatC Ev.cells (ms.drop (i + 1)))).size := by rw [h2, hcs, hzs2]; omega
    have hg1 : (w.drew.setRow g (spl cur (i * 48) (flatC Ev.cells (ms.drop (i + 1))))).heap[g]? = some (.cells (spl cur (i * 48) (flatC Ev.cells (ms.drop (i + 1)))) 51 (0, 0)) := setRow_heap w.drew g cur _ 51 (0, 0) hg
    have hcl := cl_row (P := Tryd.prog) Tryd.underlying30 hi0 hz0 (w.drew.setRow g (spl cur (i * 48) (flatC Ev.cells (ms.drop (i + 1))))) 0 hg1 1 (cap - p) (by omega) zs hzs1 hzs3 h3
    have hfin := deleted_ofE (i := i) (w1 := w.drew.setRow g (spl cur (i * 48) (flatC Ev.cells (ms.drop (i + 1))))) hok hl (by omega) hb hg hnc hm hcs hx zs hzs2 (grown_setRow (grown_drew (grown_refl w _)) _) ⟨_, hg1⟩
    have hne : ((i : Int) == (i : Int) + 1) = false := by rw [beq_eq_false_iff_ne]; omega
    have hap : ∀ ad : Addr, (∀ j u, (flatC Ev.cells (ms.drop (i + 1)))[j]? = some u → w.cell? (ad.add j) = some u) → (apRow #[30, 30] 30 #[.slice (some ⟨g, 0, none⟩) i cap, .slice (some ad) (p - i) (cap - (i + 1))]).run Tryd.prog w.drew = .ok (.slice (some ⟨g, 0, none⟩) p cap) (w.drew.setRow g (spl cur (i * 48) (flatC Ev.cells (ms.drop (i + 1))))) := by
      intro ad had
      have := ap_room (P := Tryd.prog) Tryd.underlying30 hi0 hz1 w.drew 30 (g := g) (n := i) (cap := cap) (cur := cur) hg ad (p - i) (cap - (i + 1)) (flatC Ev.cells (ms.drop (i + 1))) hlen had (flatM_onesE _) (by omega) h1
      rw [show i + (p - i) = p from by omega] at this
      exact this
    have HAP := Lib.hid hap
    have HFIN := Lib.hid hfin
    have hle : (i : Int) ≤ (p : Int) := by omega
    have hle2 : (p : Int) + 1 ≤ (cap : Int) := by omega
    by_cases hc : cap = i + 1
    · have hpi : p = i := by omega
      subst hpi
      have ha := HAP.out ⟨g, 0, none⟩ (by
        have : ms.drop (p + 1) = [] := List.drop_of_length_le (by omega)
        rw [this]
        intro j u hu
        cases hu)
      subst hc
      simp only [Nat.sub_self, Nat.add_sub_cancel_left] at ha hcl
      clear h hg hx hcs hap hfin HAP
      go_enter Tryd.func35, Tryd.ntmps35
      go_wp2_with fail
      refine wp_region_tail_lit 6 (by kernel_rfl) (by kernel_rfl) ?_
      simp only [List.take_succ_cons, List.take_zero, List.drop_succ_cons, List.drop_zero]
      repeat (go_big_quiet_step (fail))
      refine wpQuiet_nil ?_
      go_wp2_with fail
      go_ret
      exact HFIN.out
    · have ha := HAP.out ⟨g, (i + 1) * 48, none⟩ (by
        intro j u hu
        rw [← flatC_drop hok.len (by omega), ← hx, List.getElem?_drop, List.getElem?_take] at hu
        split at hu
        · rw [Addr.add_mid, _root_.Go.cell_of_row w g _ cur 51 (0, 0) hg, ← hu, Array.getElem?_toList]
        · cases hu)
      clear h hg hx hcs hap hfin HAP
      go_enter Tryd.func35, Tryd.ntmps35
      go_wp2_with fail
      refine wp_region_tail_lit 6 (by kernel_rfl) (by kernel_rfl) ?_
      simp only [List.take_succ_cons, List.take_zero, List.drop_succ_cons, List.drop_zero]
      repeat (go_big_quiet_step (fail))
      refine wpQuiet_nil ?_
      go_wp2_with fail
      go_ret
      exact HFIN.out

end Go.Proofs.YtfnfgnhbnffagaaDoor
