/-
The library's Clone, Delete and Insert at members: what they make of a row.
-/
import Derived.Test.YtfnfgnhbnffagaaDoorZPr
import Derived.Test.YtfnfgnhbnffagaaDoorZRow
import Derived.StillTailTactics
import Derived.WalkSmall
import Derived.Lib.SliceRun
import Derived.Lib.Overlaps
namespace Go.Proofs.YtfnfgnhbnffagaaDoor
open Go.RowKit
set_option linter.unusedVariables false
set_option linter.unusedSimpArgs false
set_option maxRecDepth 100000
set_option maxRecDepth 100000

def OkAllP (ms : List Pr) : Prop := ∀ m ∈ ms, m.ok
theorem OkAllP.len {ms : List Pr} (h : OkAllP ms) : ∀ m ∈ ms, (Pr.cells m).length = 2 := fun m hm => Pr.len (h m hm)
theorem cells_onesP (m : Pr) : ∀ u ∈ m.cells, u.oneCell' = true := by
  intro v hv
  simp only [Pr.cells, List.mem_cons, List.not_mem_nil, or_false] at hv
  rcases hv with rfl | rfl <;> rfl
theorem flatM_onesP (ms : List Pr) : ∀ u ∈ flatC Pr.cells ms, u.oneCell' = true := flatC_ones fun m _ => cells_onesP m
theorem infoMP : (Tryd.prog.info? 75).map (fun i => (i.zero, i.size, i.bytes)) = some (some (.agg Pr.zero.arr), 2, 32) := by kernel_rfl

/-- the builtins at members, as the walk meets them -/
@[go_sem ↓] theorem ap_MP (ty : TypeId) (args : Array Value) : Builtin.append_ #[22, 22] ty args = apRow #[22, 22] ty args := rfl
@[go_sem ↓] theorem ap_MnP (ty : TypeId) (args : Array Value) : Builtin.append_ #[22, 3] ty args = apRow #[22, 3] ty args := rfl
@[go_sem ↓] theorem cp_MP (ty : TypeId) (args : Array Value) : Builtin.copy_ #[22, 22] ty args = cpRow #[22, 22] ty args := rfl
@[go_sem ↓] theorem cl_MP (ty : TypeId) (args : Array Value) : Builtin.clear_ #[22] ty args = clRow #[22] ty args := rfl
@[go_sem] theorem nil_MP (a : Option Addr) (l c : Nat) (w : World) : (binOp .eql 22 (.slice a l c) (.slice none 0 0)).run Tryd.prog w = .ok (.bool a.isNone) w := Lib.run_eql_slice_nil w 22 75 a l c 0 0 Tryd.underlying22
@[go_sem ↓] theorem bs_MP (n : Nat) (ps : Array (Nat × Value)) : Instr.buildSlice 22 n ps = bsRow 22 n ps := rfl
@[go_sem] theorem bs_M0P (w : World) : (bsRow 22 0 #[]).run Tryd.prog w = .ok (.slice (some ⟨w.heap.size, 0, none⟩) 0 0) (w.alloc (.cells #[] 75)) := by
  obtain ⟨i0, hi, hz0, hz1, hz2⟩ := info_parts infoMP
  exact bs_row Tryd.underlying22 hi hz0 hz1 (Pr.size Pr.zero_ok) (by decide) w [] (by simp) (by simp)
theorem bs_M1P {m : Pr} (h : m.ok) (w : World) : (bsRow 22 1 #[(0, .agg m.arr)]).run Tryd.prog w = .ok (.slice (some ⟨w.heap.size, 0, none⟩) 1 1) (w.alloc (.cells m.arr 75)) := by
  obtain ⟨i0, hi, hz0, hz1, hz2⟩ := info_parts infoMP
  have := bs_row Tryd.underlying22 hi hz0 hz1 (Pr.size Pr.zero_ok) (by decide) w [.agg m.arr] (by simp [Value.cells, Pr.size h]) (by simp)
  simpa [Value.cells] using this

/-- an owned row of members, read -/
theorem PS_of_own {w : World} {B n : Nat} {v : Value} {ms : List Pr} (h : w.ownsRow B 75 2 v n (flatC Pr.cells ms)) (hok : OkAllP ms) (hs : n ≤ 140737488355328) : ∃ A cap, v = .slice A n cap ∧ PS w A n ms := by
  have hl : ms.length = n := by
    have := h.1
    rw [flatC_length hok.len] at this
    omega
  rcases h.2 with ⟨rfl, rfl⟩ | ⟨g, cap, cur, rfl, hb, hg, hn, hm, hcs, hx⟩
  · exact ⟨none, 0, rfl, ⟨hl, hs, hok, fun h => by omega⟩⟩
  · refine ⟨_, cap, rfl, ⟨hl, hs, hok, fun h0 => ⟨g, 0, rfl, (Array.getElem?_eq_some_iff.1 hg).1, fun i hi => ?_⟩⟩⟩
    have h1 := flatC_at hok.len (i := i) (by omega)
    rw [← hx] at h1
    unfold rowAt
    rw [hg]
    show cut cur (0 + i * 2) 2 = _
    unfold cut
    rw [if_pos (by rw [hcs]; omega)]
    congr 1
    apply Array.ext'
    show (cur.extract (0 + i * 2) (0 + i * 2 + 2)).toList = (ms.getD i default).cells
    rw [← h1, Array.toList_extract, Nat.zero_add, List.extract_eq_take_drop, List.drop_take]
    rw [List.take_take]
    congr 1
    omega
/-- members that are read: their cells, one by one -/
theorem PS.news {w : World} {A : Option Addr} {n : Nat} {ms : List Pr} (h : PS w A n ms) {b off : Nat} (hA : A = some ⟨b, off, none⟩) (i : Nat) (hi : i ≤ n) : ∀ j u, (flatC Pr.cells (ms.drop i))[j]? = some u → w.cell? ((⟨b, off + i * 2, none⟩ : Addr).add j) = some u := by
  intro j u hu
  have hok : OkAllP ms := h.ok
  rw [← flatC_drop hok.len (by rw [h.len]; exact hi), List.getElem?_drop] at hu
  have hlt : i * 2 + j < n * 2 := by
    have := (List.getElem?_eq_some_iff.1 hu).1
    rw [flatC_length hok.len, h.len] at this
    exact this
  have hq : (i * 2 + j) / 2 < n := by omega
  obtain ⟨b', off', e, hb, hm⟩ := h.mem (by omega)
  rw [hA] at e
  injection e with e
  injection e with e1 e2 _
  subst e1; subst e2
  have h1 := hm ((i * 2 + j) / 2) hq
  have h2 := flatC_at hok.len (i := (i * 2 + j) / 2) (by rw [h.len]; exact hq)
  have h3 : ((ms.getD ((i * 2 + j) / 2) default).arr)[(i * 2 + j) % 2]? = some u := by
    show ((ms.getD ((i * 2 + j) / 2) default).cells.toArray)[(i * 2 + j) % 2]? = some u
    rw [List.getElem?_toArray, ← h2, List.getElem?_take, if_pos (Nat.mod_lt _ (by decide)), List.getElem?_drop, ← hu]
    congr 1
    omega
  have h4 := cell_of_rowAt h1 _ _ h3
  rw [Addr.add_mid, ← h4]
  congr 2
  omega

/-- what Clone answers: a row of one's own -/
def ClonedP (ms : List Pr) (n : Nat) (w : World) (e : Ending) (w' : World) : Prop :=
  ∃ v, e = .returned v ∧ w'.ownsRow w.heap.size 75 2 v n (flatC Pr.cells ms) ∧ Below w.heap.size w w'

set_option maxHeartbeats 1000000 in
theorem clone_anyP (A : Option Addr) (n cap : Nat) (ms : List Pr) (w : World) (h : PS w A n ms) (hb : n * 32 ≤ 140737488355328) (hA : A = none → n = 0) (hs : ∀ a, A = some a → a.spot = none) :
    Calls Tryd.prog 45 #[.slice A n cap] w (ClonedP ms n w) := by
  cases A with
  | none =>
    obtain rfl := hA rfl
    have hms : ms = [] := List.eq_nil_of_length_eq_zero h.len
    subst hms
    clear hA h hs
    go_enter Tryd.func45, Tryd.ntmps45
    go_wp2_with fail
    go_ret
    exact ⟨_, rfl, World.ownsRow_nil _ _ _ _, Below.refl _ _⟩
  | some ad =>
    obtain ⟨b, off, sp⟩ := ad
    obtain rfl : sp = none := hs _ rfl
    have hok : OkAllP ms := h.ok
    have hlen := h.len
    obtain ⟨i0, hi, hz0, hz1, hz2⟩ := info_parts infoMP
    have hown : (w.alloc (.cells #[] 75)).ownsRow w.heap.size 75 2 (.slice (some ⟨w.heap.size, 0, none⟩) 0 0) 0 [] := World.ownsRow_made w #[] 0 (Nat.le_refl _) (by decide) rfl
    obtain ⟨v', w1, hrun, hown1, hgrow, _, hat⟩ := run_append_own_at (P := Tryd.prog) (w.alloc (.cells #[] 75)) w.heap.size 22 22 75 i0 (.agg Pr.zero.arr) 2 32 Tryd.underlying22 hi hz0 hz1 hz2 (Pr.size Pr.zero_ok) (by decide)
      (.slice (some ⟨w.heap.size, 0, none⟩) 0 0) 0 [] hown ⟨b, off, none⟩ n cap (flatC Pr.cells ms) (by rw [flatC_length hok.len, hlen])
      (fun j u hu => by
        have h1 := h.news rfl 0 (by omega) j u hu
        rw [Nat.zero_mul, Nat.add_zero] at h1
        rw [Addr.add_mid] at h1 ⊢
        rw [World.cell?_alloc_lt _ _ _ (World.block_lt_of_cell? w _ h1)]
        exact h1)
      (flatM_onesP ms) (by have := h.small; simp only [maxLen]; omega) (by omega) (by simp)
    have hr : (apRow #[22, 22] 22 #[.slice (some ⟨w.heap.size, 0, none⟩) 0 0, .slice (some ⟨b, off, none⟩) n cap]).run Tryd.prog (w.alloc (.cells #[] 75)) = .ok v' w1 := hrun
    have hB : Below w.heap.size w w1 := ((Below.refl _ _).alloc (Nat.le_refl _) _).grown hgrow (by simp) (fun k hk => by simp [Value.ownBlock] at hk; omega)
    have H1 := Lib.hid hown1
    clear hA hs h hown hrun hown1 hgrow hat hi hz0 hz1 hz2 hok hlen
    go_enter Tryd.func45, Tryd.ntmps45
    go_wp2_with fail
    go_ret
    exact ⟨_, rfl, by simpa using H1.out, hB⟩

/-- a member is taken out -/
theorem eraseIdx_eqP (ms : List Pr) (i : Nat) : ms.eraseIdx i = ms.take i ++ ms.drop (i + 1) := List.eraseIdx_eq_take_drop_succ ..

/-- what Delete answers: the same row without a member -/
def DeletedP (ms : List Pr) (i n B : Nat) (v : Value) (w : World) (e : Ending) (w' : World) : Prop :=
  ∃ v', e = .returned v' ∧ w'.ownsRow B 75 2 v' (n - 1) (flatC Pr.cells (ms.eraseIdx i)) ∧ v'.ownBlock = v.ownBlock ∧ w.grownBy w' v.ownBlock

theorem deleted_ofP {B p i g cap : Nat} {cur : Array Value} {ms : List Pr} {w w1 : World} (hok : OkAllP ms) (hl : ms.length = p + 1) (hi : i ≤ p) (hb : B ≤ g) (hg : w.heap[g]? = some (.cells cur 75 (0, 0))) (hnc : p + 1 ≤ cap) (hm : cap ≤ maxLen) (hcs : cur.size = cap * 2)
    (hx : cur.toList.take ((p + 1) * 2) = flatC Pr.cells ms) (zs : List Value) (hz : zs.length = 2) (hw1 : w.grownBy w1 (some g)) (hg1 : ∃ c0, w1.heap[g]? = some (.cells c0 75 (0, 0))) :
    DeletedP ms i (p + 1) B (.slice (some ⟨g, 0, none⟩) (p + 1) cap) w (.returned (.slice (some ⟨g, 0, none⟩) p cap)) (w1.setRow g (spl (spl cur (i * 2) (flatC Pr.cells (ms.drop (i + 1)))) (p * 2) zs)) := by
  obtain ⟨c0, hg1⟩ := hg1
  have hlen : (flatC Pr.cells (ms.drop (i + 1))).length = (p - i) * 2 := by
    rw [flatC_length (fun m hm => hok.len m (List.mem_of_mem_drop hm)), List.length_drop, hl]
    congr 1
    omega
  have h1 : i * 2 + (flatC Pr.cells (ms.drop (i + 1))).length ≤ cur.size := by rw [hlen, hcs]; omega
  have h2 : (spl cur (i * 2) (flatC Pr.cells (ms.drop (i + 1)))).size = cur.size := spl_size h1
  have h3 : p * 2 + zs.length ≤ (spl cur (i * 2) (flatC Pr.cells (ms.drop (i + 1)))).size := by rw [h2, hcs, hz]; omega
  refine ⟨_, rfl, own_of_block hb (setRow_heap w1 g c0 _ 75 (0, 0) hg1) (by omega) hm (by rw [spl_size h3, h2, hcs]) ?_, rfl, grown_setRow hw1 _⟩
  rw [spl_take_le h3 (Nat.le_refl _), show p * 2 = i * 2 + (flatC Pr.cells (ms.drop (i + 1))).length by rw [hlen]; omega, spl_take_end h1, eraseIdx_eqP, flatC_append]
  congr 1
  rw [← flatC_take hok.len (by omega), ← hx, List.take_take, Nat.min_eq_left (by omega)]

theorem zeros_MP : ∃ zs, (Builtin.zeroCells (Value.agg Pr.zero.arr).cells 1).toList = zs ∧ zs.length = 2 ∧ ∀ u ∈ zs, u.oneCell' = true :=
  ⟨Pr.zero.cells, by kernel_rfl, by decide, cells_onesP _⟩

set_option maxHeartbeats 2000000 in
theorem delete_anyP {B n i : Nat} {v : Value} {ms : List Pr} {w : World} (h : w.ownsRow B 75 2 v n (flatC Pr.cells ms)) (hok : OkAllP ms) (hn : n ≤ 4611686018427387904) (hi : i < n) :
    Calls Tryd.prog 48 #[v, .int .i64 (i : Int), .int .i64 ((i : Int) + 1)] w (DeletedP ms i n B v w) := by
  have hl : ms.length = n := by
    have := h.1
    rw [flatC_length hok.len] at this
    omega
  obtain ⟨p, rfl⟩ : ∃ p, n = p + 1 := ⟨n - 1, by omega⟩
  rcases h.2 with ⟨_, h0⟩ | ⟨g, cap, cur, rfl, hb, hg, hnc, hm, hcs, hx⟩
  · omega
  · have hm' : cap ≤ 9223372036854775807 := by simpa [maxLen] using hm
    obtain ⟨i0, hi0, hz0, hz1, hz2⟩ := info_parts infoMP
    obtain ⟨zs, hzs1, hzs2, hzs3⟩ := zeros_MP
    have hlen : (flatC Pr.cells (ms.drop (i + 1))).length = (p - i) * 2 := by
      rw [flatC_length (fun m hm => hok.len m (List.mem_of_mem_drop hm)), List.length_drop, hl]
      congr 1
      omega
    have h1 : i * 2 + (flatC Pr.cells (ms.drop (i + 1))).length ≤ cur.size := by rw [hlen, hcs]; omega
    have h2 : (spl cur (i * 2) (flatC Pr.cells (ms.drop (i + 1)))).size = cur.size := spl_size h1
    have h3 : p * 2 + zs.length ≤ (spl cur (i * 2) (flatC Pr.cells (ms.drop (i + 1)))).size := by rw [h2, hcs, hzs2]; omega
    have hg1 : (w.drew.setRow g (spl cur (i * 2) (flatC Pr.cells (ms.drop (i + 1))))).heap[g]? = some (.cells (spl cur (i * 2) (flatC Pr.cells (ms.drop (i + 1)))) 75 (0, 0)) := setRow_heap w.drew g cur _ 75 (0, 0) hg
    have hcl := cl_row (P := Tryd.prog) Tryd.underlying22 hi0 hz0 (w.drew.setRow g (spl cur (i * 2) (flatC Pr.cells (ms.drop (i + 1))))) 0 hg1 1 (cap - p) (by omega) zs hzs1 hzs3 h3
    have hfin := deleted_ofP (i := i) (w1 := w.drew.setRow g (spl cur (i * 2) (flatC Pr.cells (ms.drop (i + 1))))) hok hl (by omega) hb hg hnc hm hcs hx zs hzs2 (grown_setRow (grown_drew (grown_refl w _)) _) ⟨_, hg1⟩
    have hne : ((i : Int) == (i : Int) + 1) = false := by rw [beq_eq_false_iff_ne]; omega
    have hap : ∀ ad : Addr, (∀ j u, (flatC Pr.cells (ms.drop (i + 1)))[j]? = some u → w.cell? (ad.add j) = some u) → (apRow #[22, 22] 22 #[.slice (some ⟨g, 0, none⟩) i cap, .slice (some ad) (p - i) (cap - (i + 1))]).run Tryd.prog w.drew = .ok (.slice (some ⟨g, 0, none⟩) p cap) (w.drew.setRow g (spl cur (i * 2) (flatC Pr.cells (ms.drop (i + 1))))) := by
      intro ad had
      have := ap_room (P := Tryd.prog) Tryd.underlying22 hi0 hz1 w.drew 22 (g := g) (n := i) (cap := cap) (cur := cur) hg ad (p - i) (cap - (i + 1)) (flatC Pr.cells (ms.drop (i + 1))) hlen had (flatM_onesP _) (by omega) h1
      rw [show i + (p - i) = p from by omega] at this
      exact this
    have HAP := Lib.hid hap
    have HFIN := Lib.hid hfin
    have hle : (i : Int) ≤ (p : Int) := by omega
    have hle2 : (p : Int) + 1 ≤ (cap : Int) := by omega
    by_cases hc : cap = i + 1
    · have hpi : p = i := by omega
      subst hpi
      have ha := HAP.out ⟨g, 0, none⟩ (by
        have : ms.drop (p + 1) = [] := List.drop_of_length_le (by omega)
        rw [this]
        intro j u hu
        cases hu)
      subst hc
      simp only [Nat.sub_self, Nat.add_sub_cancel_left] at ha hcl
      clear h hg hx hcs hap hfin HAP
      go_enter Tryd.func48, Tryd.ntmps48
      go_wp2_with fail
      refine wp_region_tail_lit 6 (by kernel_rfl) (by kernel_rfl) ?_
      simp only [List.take_succ_cons, List.take_zero, List.drop_succ_cons, List.drop_zero]
      repeat (go_big_quiet_step (fail))
      refine wpQuiet_nil ?_
      go_wp2_with fail
      go_ret
      exact HFIN.out
    · have ha := HAP.out ⟨g, (i + 1) * 2, none⟩ (by
        intro j u hu
        rw [← flatC_drop hok.len (by omega), ← hx, List.getElem?_drop, List.getElem?_take] at hu
        split at hu
        · rw [Addr.add_mid, cell_of_row w g _ cur 75 (0, 0) hg, ← hu, Array.getElem?_toList]
        · cases hu)
      clear h hg hx hcs hap hfin HAP
      go_enter Tryd.func48, Tryd.ntmps48
      go_wp2_with fail
      refine wp_region_tail_lit 6 (by kernel_rfl) (by kernel_rfl) ?_
      simp only [List.take_succ_cons, List.take_zero, List.drop_succ_cons, List.drop_zero]
      repeat (go_big_quiet_step (fail))
      refine wpQuiet_nil ?_
      go_wp2_with fail
      go_ret
      exact HFIN.out

/-- what Insert answers: a row with one member more -/
def InsertedP (ms : List Pr) (m : Pr) (i n B : Nat) (v : Value) (w : World) (e : Ending) (w' : World) : Prop :=
  ∃ v', e = .returned v' ∧ w'.ownsRow B 75 2 v' (n + 1) (flatC Pr.cells (ms.take i ++ m :: ms.drop i)) ∧ w.grownBy w' v.ownBlock ∧ (v'.ownBlock = v.ownBlock ∨ ∃ g, v'.ownBlock = some g ∧ w.heap.size ≤ g)

set_option maxHeartbeats 2000000 in
theorem insert_endP {B n vb : Nat} {v : Value} {ms : List Pr} {m : Pr} {w : World} (h : w.ownsRow B 75 2 v n (flatC Pr.cells ms)) (hok : OkAllP ms) (hm : m.ok) (hn : (n + 1) * 32 ≤ 140737488355328) (hB : B ≤ w.heap.size)
    (hvb : w.heap[vb]? = some (.cells m.arr 75 (0, 0))) (hne : ∃ g cap, v = .slice (some ⟨g, 0, none⟩) n cap) :
    Calls Tryd.prog 66 #[v, .int .i64 (n : Int), .slice (some ⟨vb, 0, none⟩) 1 1] w (InsertedP ms m n n B v w) := by
  have hl : ms.length = n := by
    have := h.1
    rw [flatC_length hok.len] at this
    omega
  obtain ⟨g, cap, rfl⟩ := hne
  obtain ⟨hnc, hcap⟩ : n ≤ cap ∧ cap ≤ maxLen := by
    rcases h.2 with ⟨h0, _⟩ | ⟨g', cap', cur, h0, _, _, h1, h2, _⟩
    · cases h0
    · injection h0 with _ _ h3; subst h3; exact ⟨h1, h2⟩
  have hcap' : cap ≤ 9223372036854775807 := by simpa [maxLen] using hcap
  obtain ⟨i0, hi, hz0, hz1, hz2⟩ := info_parts infoMP
  obtain ⟨v', w1, hrun, hown1, hgrow, _, hat⟩ := run_append_own_at (P := Tryd.prog) w B 22 22 75 i0 (.agg Pr.zero.arr) 2 32 Tryd.underlying22 hi hz0 hz1 hz2 (Pr.size Pr.zero_ok) (by decide)
    _ n _ h ⟨vb, 0, none⟩ 1 1 m.cells (by rw [Pr.len hm])
    (fun j u hu => by rw [Addr.add_mid, Nat.zero_add, cell_of_row w vb j m.arr 75 (0, 0) hvb]; simpa [Pr.arr] using hu)
    (cells_onesP m) (by simp only [maxLen]; omega) (by omega) hB
  have hr : (apRow #[22, 22] 22 #[.slice (some ⟨g, 0, none⟩) n cap, .slice (some ⟨vb, 0, none⟩) 1 1]).run Tryd.prog w = .ok v' w1 := hrun
  have HF := Lib.hid (show InsertedP ms m n n B (.slice (some ⟨g, 0, none⟩) n cap) w (.returned v') w1 from ⟨v', rfl, by
    rw [List.take_of_length_le (by omega), List.drop_of_length_le (by omega), flatC_append, flatC_one]; exact hown1, hgrow, hat.imp id (fun h => ⟨_, h, Nat.le_refl _⟩)⟩)
  have hle : (n : Int) ≤ (cap : Int) := by omega
  clear h hrun hown1 hgrow hat hi hz0 hz1 hz2 hvb hok hl hcap
  by_cases hc : cap = n
  · subst hc
    go_enter Tryd.func66, Tryd.ntmps66
    go_wp2_with fail
    go_ret
    exact HF.out
  · go_enter Tryd.func66, Tryd.ntmps66
    go_wp2_with fail
    go_ret
    exact HF.out

theorem inserted_ofP {B g i n cap : Nat} {v : Value} {cur : Array Value} {ms : List Pr} {m : Pr} {w w1 : World} (hok : OkAllP ms) (hm : m.ok) (hl : ms.length = n) (hi : i < n) (hb : B ≤ g) (hg : w1.heap[g]? = some (.cells cur 75 (0, 0))) (hnc : n + 1 ≤ cap) (hcap : cap ≤ maxLen) (hcs : cur.size = cap * 2)
    (hx : cur.toList.take ((n + 1) * 2) = flatC Pr.cells (ms.take i ++ m :: ms.drop i)) (hw1 : w.grownBy w1 v.ownBlock) (hgb : v.ownBlock = some g ∨ w.heap.size ≤ g) :
    InsertedP ms m i n B v w (.returned (.slice (some ⟨g, 0, none⟩) (n + 1) cap)) w1 :=
  ⟨_, rfl, own_of_block hb hg hnc hcap hcs hx, hw1, hgb.imp (fun h => h.symm) (fun h => ⟨g, rfl, h⟩)⟩

theorem shift_takeP {cur : Array Value} {i n : Nat} {ms : List Pr} {m : Pr} (hok : OkAllP ms) (hm : m.ok) (hl : ms.length = n) (hi : i < n) (hcs : (n + 1) * 2 ≤ cur.size) (hx : cur.toList.take (i * 2) = flatC Pr.cells (ms.take i)) :
    (spl (spl cur ((i + 1) * 2) (flatC Pr.cells (ms.drop i))) (i * 2) m.cells).toList.take ((n + 1) * 2) = flatC Pr.cells (ms.take i ++ m :: ms.drop i) := by
  have hlen : (flatC Pr.cells (ms.drop i)).length = (n - i) * 2 := by
    rw [flatC_length (fun m hm => hok.len m (List.mem_of_mem_drop hm)), List.length_drop, hl]
  have h1 : (i + 1) * 2 + (flatC Pr.cells (ms.drop i)).length = (n + 1) * 2 := by rw [hlen]; omega
  have h2 : (spl cur ((i + 1) * 2) (flatC Pr.cells (ms.drop i))).size = cur.size := spl_size (by omega)
  have hml := Pr.len hm
  rw [spl_take_far (by rw [h2, hml]; omega) (by rw [hml]; omega), spl_take_le (by omega) (by omega), hx, ← h1, spl_take_end (by omega), hml]
  rw [List.drop_append_of_le_length (by simp; omega), List.drop_of_length_le (by simp; omega), List.nil_append, flatC_append, flatC_cons, List.append_assoc]
theorem grow_takeP {cur : Array Value} {i n : Nat} {ms : List Pr} {m : Pr} (hok : OkAllP ms) (hm : m.ok) (hl : ms.length = n) (hi : i < n) (hcs : (n + 1) * 2 ≤ cur.size) (hx : cur.toList.take (i * 2) = flatC Pr.cells (ms.take i)) :
    (spl (spl cur (i * 2) m.cells) ((i + 1) * 2) (flatC Pr.cells (ms.drop i))).toList.take ((n + 1) * 2) = flatC Pr.cells (ms.take i ++ m :: ms.drop i) := by
  have hlen : (flatC Pr.cells (ms.drop i)).length = (n - i) * 2 := by
    rw [flatC_length (fun m hm => hok.len m (List.mem_of_mem_drop hm)), List.length_drop, hl]
  have h1 : (i + 1) * 2 + (flatC Pr.cells (ms.drop i)).length = (n + 1) * 2 := by rw [hlen]; omega
  have hml := Pr.len hm
  have h2 : (spl cur (i * 2) m.cells).size = cur.size := spl_size (by rw [hml]; omega)
  rw [← h1, spl_take_end (by rw [h2]; omega), show (i + 1) * 2 = i * 2 + m.cells.length by rw [hml]; omega, spl_take_end (by rw [hml]; omega), hx, flatC_append, flatC_cons, List.append_assoc]

set_option maxHeartbeats 2000000 in
theorem insert_roomP {B g n cap i vb : Nat} {cur : Array Value} {ms : List Pr} {m : Pr} {w : World} (hok : OkAllP ms) (hm : m.ok) (hl : ms.length = n) (hi : i < n) (hB : B ≤ g) (hg : w.heap[g]? = some (.cells cur 75 (0, 0))) (hnc : n + 1 ≤ cap) (hcap : cap ≤ maxLen) (hcs : cur.size = cap * 2)
    (hx : cur.toList.take (n * 2) = flatC Pr.cells ms) (hvb : w.heap[vb]? = some (.cells m.arr 75 (0, 0))) (hne : vb ≠ g) (hn : n ≤ 140737488355328) :
    Calls Tryd.prog 66 #[.slice (some ⟨g, 0, none⟩) n cap, .int .i64 (i : Int), .slice (some ⟨vb, 0, none⟩) 1 1] w (InsertedP ms m i n B (.slice (some ⟨g, 0, none⟩) n cap) w) := by
  have hcap' : cap ≤ 9223372036854775807 := by simpa [maxLen] using hcap
  obtain ⟨i0, hi0, hz0, hz1, hz2⟩ := info_parts infoMP
  have hlen : (flatC Pr.cells (ms.drop i)).length = (n - i) * 2 := by
    rw [flatC_length (fun m hm => hok.len m (List.mem_of_mem_drop hm)), List.length_drop, hl]
  have hml := Pr.len hm
  have hov : ∀ lb cb, (callFunc 76 #[.slice (some ⟨vb, 0, none⟩) 1 1, .slice (some ⟨g, (i + 1) * 2, none⟩) lb cb]).run Tryd.prog w = .ok (.value (.bool false)) w := fun lb cb => by
    rw [run_callFunc_extern Tryd.func76 (by kernel_rfl) (by kernel_rfl) (by kernel_rfl) (e := Extern.SlicesOverlaps.overlaps #[22, 22] #[4]) (by kernel_rfl),
      Lib.run_overlaps_apart w 22 4 75 Tryd.underlying22 2 (fun w => by kernel_rfl) ⟨vb, 0, none⟩ ⟨g, (i + 1) * 2, none⟩ 1 1 lb cb hne 75 75 2 (cap * 2)
        (by simp [World.shape?, hvb, Pr.size hm]) (by simp [World.shape?, hg, hcs]) (by omega) (by simp [World.frozen?, hvb]) (by simp [World.frozen?, hvb])]
    rfl
  have hsp1 : (i + 1) * 2 + (flatC Pr.cells (ms.drop i)).length ≤ cur.size := by rw [hlen, hcs]; omega
  have hsz1 : (spl cur ((i + 1) * 2) (flatC Pr.cells (ms.drop i))).size = cur.size := spl_size hsp1
  have hsp2 : i * 2 + m.cells.length ≤ (spl cur ((i + 1) * 2) (flatC Pr.cells (ms.drop i))).size := by rw [hsz1, hml, hcs]; omega
  have hg1 : (w.drew.setRow g (spl cur ((i + 1) * 2) (flatC Pr.cells (ms.drop i)))).heap[g]? = some (.cells (spl cur ((i + 1) * 2) (flatC Pr.cells (ms.drop i))) 75 (0, 0)) := setRow_heap w.drew g cur _ 75 (0, 0) hg
  have hvb1 : (w.drew.setRow g (spl cur ((i + 1) * 2) (flatC Pr.cells (ms.drop i)))).heap[vb]? = some (.cells m.arr 75 (0, 0)) := by
    rw [setRow_other w.drew g vb _ hne]; exact hvb
  have hcp1 : (cpRow #[22, 22] 3 #[.slice (some ⟨g, (i + 1) * 2, none⟩) (n - i) (cap - (i + 1)), .slice (some ⟨g, i * 2, none⟩) (n + 1 - i) (cap - i)]).run Tryd.prog w.drew = .ok (.int .i64 ((n - i : Nat) : Int)) (w.drew.setRow g (spl cur ((i + 1) * 2) (flatC Pr.cells (ms.drop i)))) :=
    cp_row (P := Tryd.prog) Tryd.underlying22 hi0 hz1 w.drew 3 22 hg (n - i) (cap - (i + 1)) ⟨g, i * 2, none⟩ (n + 1 - i) (cap - i) (n - i) (Nat.min_eq_right (by omega)) _ hlen (fun j u hu => by
      rw [← flatC_drop hok.len (by omega), ← hx, List.getElem?_drop, List.getElem?_take] at hu
      split at hu
      · rw [Addr.add_mid, World.cell?_drew, cell_of_row w g _ cur 75 (0, 0) hg, ← hu, Array.getElem?_toList]
      · cases hu) (flatM_onesP _) hsp1
  have hcp2 : (cpRow #[22, 22] 3 #[.slice (some ⟨g, i * 2, none⟩) (n + 1 - i) (cap - i), .slice (some ⟨vb, 0, none⟩) 1 1]).run Tryd.prog (w.drew.setRow g (spl cur ((i + 1) * 2) (flatC Pr.cells (ms.drop i)))) =
      .ok (.int .i64 ((1 : Nat) : Int)) ((w.drew.setRow g (spl cur ((i + 1) * 2) (flatC Pr.cells (ms.drop i)))).setRow g (spl (spl cur ((i + 1) * 2) (flatC Pr.cells (ms.drop i))) (i * 2) m.cells)) :=
    cp_row (P := Tryd.prog) Tryd.underlying22 hi0 hz1 _ 3 22 hg1 (n + 1 - i) (cap - i) ⟨vb, 0, none⟩ 1 1 1 (Nat.min_eq_left (by omega)) m.cells (by rw [hml]) (fun j u hu => by
      rw [Addr.add_mid, Nat.zero_add, cell_of_row _ vb j m.arr 75 (0, 0) hvb1]; simpa [Pr.arr] using hu) (cells_onesP m) hsp2
  have HF := Lib.hid (inserted_ofP (v := .slice (some ⟨g, 0, none⟩) n cap) (w := w) hok hm hl hi hB (setRow_heap _ g _ (spl (spl cur ((i + 1) * 2) (flatC Pr.cells (ms.drop i))) (i * 2) m.cells) 75 (0, 0) hg1) hnc hcap (by rw [spl_size hsp2, hsz1, hcs])
    (shift_takeP hok hm hl hi (by rw [hcs]; omega) (by rw [← flatC_take hok.len (by omega), ← hx, List.take_take, Nat.min_eq_left (by omega)])) (grown_setRow (grown_setRow (grown_drew (grown_refl w _)) _) _) (.inl rfl))
  have hle : (n : Int) + 1 ≤ (cap : Int) := by omega
  have hq : ((i : Int) == (n : Int)) = false := by rw [beq_eq_false_iff_ne]; omega
  have hc1 : ¬ cap = i + 1 := by omega
  have hc2 : ¬ cap = i := by omega
  clear hg1 hvb1 hg hvb hx hcs hlen hml hsp1 hsp2 hsz1 hi0 hz0 hz1 hz2 hcap
  go_enter Tryd.func66, Tryd.ntmps66
  go_wp2_with fail
  refine wp_region_tail_lit 8 (by kernel_rfl) (by kernel_rfl) ?_
  simp only [List.take_succ_cons, List.take_zero, List.drop_succ_cons, List.drop_zero]
  repeat (go_big_quiet_step (fail))
  refine wpQuiet_nil ?_
  go_wp2_with fail
  go_ret
  exact HF.out

set_option maxHeartbeats 2000000 in
theorem insert_growP {B g n i vb : Nat} {cur : Array Value} {ms : List Pr} {m : Pr} {w : World} (hok : OkAllP ms) (hm : m.ok) (hl : ms.length = n) (hi : i < n) (hB : B ≤ w.heap.size) (hg : w.heap[g]? = some (.cells cur 75 (0, 0))) (hcs : cur.size = n * 2)
    (hx : cur.toList.take (n * 2) = flatC Pr.cells ms) (hvb : w.heap[vb]? = some (.cells m.arr 75 (0, 0))) (hn : (n + 1) * 32 ≤ 140737488355328) :
    Calls Tryd.prog 66 #[.slice (some ⟨g, 0, none⟩) n n, .int .i64 (i : Int), .slice (some ⟨vb, 0, none⟩) 1 1] w (InsertedP ms m i n B (.slice (some ⟨g, 0, none⟩) n n) w) := by
  obtain ⟨i0, hi0, hz0, hz1, hz2⟩ := info_parts infoMP
  have hlen : (flatC Pr.cells (ms.drop i)).length = (n - i) * 2 := by
    rw [flatC_length (fun m hm => hok.len m (List.mem_of_mem_drop hm)), List.length_drop, hl]
  have hlt : (flatC Pr.cells (ms.take i)).length = i * 2 := by
    rw [flatC_length (fun m hm => hok.len m (List.mem_of_mem_take hm)), List.length_take, hl, Nat.min_eq_left (by omega)]
  have hml := Pr.len hm
  have htk : cur.toList.take (i * 2) = flatC Pr.cells (ms.take i) := by rw [← flatC_take hok.len (by omega), ← hx, List.take_take, Nat.min_eq_left (by omega)]
  -- the new row
  obtain ⟨NC, hNC, hNC1, hNC2⟩ : ∃ NC, grownCap w (i + (n + 1 - i)) n 75 = NC ∧ n + 1 ≤ NC ∧ NC ≤ maxLen :=
    ⟨_, rfl, by have := grownCap_ge w (i + (n + 1 - i)) n 75; omega, grownCap_le_maxLen w _ n 75 (by simp only [maxLen]; omega)⟩
  have hap := ap_zeros (P := Tryd.prog) (tn := 3) Tryd.underlying22 Tryd.underlying3 hi0 hz0 hz1 hz2 (by decide) w 22 g i n (n + 1 - i) (flatC Pr.cells (ms.take i)) hlt (fun j u hu => by
    rw [← htk, List.getElem?_take] at hu
    split at hu
    · rw [Addr.add_mid, Nat.zero_add, cell_of_row w g j cur 75 (0, 0) hg, ← hu, Array.getElem?_toList]
    · cases hu) (by omega) (by omega) (by omega) (by omega)
  rw [hNC] at hap
  obtain ⟨X, hX⟩ : ∃ X, (flatC Pr.cells (ms.take i)).toArray ++ Builtin.zeroCells (Value.agg Pr.zero.arr).cells (n + 1 - i) ++ Builtin.zeroCells (Value.agg Pr.zero.arr).cells (NC - (i + (n + 1 - i))) = X := ⟨_, rfl⟩
  have hXs : X.size = NC * 2 := by
    have hz : (Value.agg Pr.zero.arr).cells.size = 2 := Pr.size Pr.zero_ok
    rw [← hX]
    simp only [Array.size_append, List.size_toArray, hlt, size_zeroCells, hz]
    omega
  have hXt : X.toList.take (i * 2) = flatC Pr.cells (ms.take i) := by
    rw [← hX, Array.toList_append, Array.toList_append, List.append_assoc, List.take_append_of_le_length (by simp [hlt]), List.take_of_length_le (by simp [hlt])]
  rw [hX, show i + (n + 1 - i) = n + 1 by omega] at hap
  have hap' : (apRow #[22, 3] 22 #[.slice (some ⟨g, 0, none⟩) i n, .int .i64 ((n : Int) + 1 - (i : Int))]).run Tryd.prog w = .ok (.slice (some ⟨w.heap.size, 0, none⟩) (n + 1) NC) (w.drew.alloc (.cells X 75)) := by
    rw [show (n : Int) + 1 - (i : Int) = ((n + 1 - i : Nat) : Int) by omega]; exact hap
  have hg0 : (w.drew.alloc (.cells X 75)).heap[w.heap.size]? = some (.cells X 75 (0, 0)) := _root_.Go.heap_alloc_new w.drew _
  have hglt : g < w.heap.size := (Array.getElem?_eq_some_iff.1 hg).1
  have hvlt : vb < w.heap.size := (Array.getElem?_eq_some_iff.1 hvb).1
  have hvb1 : (w.drew.alloc (.cells X 75)).heap[vb]? = some (.cells m.arr 75 (0, 0)) := (Below.heap_alloc w.drew _ vb hvlt).trans hvb
  have hgg1 : (w.drew.alloc (.cells X 75)).heap[g]? = some (.cells cur 75 (0, 0)) := (Below.heap_alloc w.drew _ g hglt).trans hg
  have hsp1 : i * 2 + m.cells.length ≤ X.size := by rw [hml, hXs]; omega
  have hsz1 : (spl X (i * 2) m.cells).size = X.size := spl_size hsp1
  have hsp2 : (i + 1) * 2 + (flatC Pr.cells (ms.drop i)).length ≤ (spl X (i * 2) m.cells).size := by rw [hsz1, hlen, hXs]; omega
  have hcp1 : (cpRow #[22, 22] 3 #[.slice (some ⟨w.heap.size, i * 2, none⟩) (n + 1 - i) (NC - i), .slice (some ⟨vb, 0, none⟩) 1 1]).run Tryd.prog (w.drew.alloc (.cells X 75)) =
      .ok (.int .i64 ((1 : Nat) : Int)) ((w.drew.alloc (.cells X 75)).setRow w.heap.size (spl X (i * 2) m.cells)) :=
    cp_row (P := Tryd.prog) Tryd.underlying22 hi0 hz1 _ 3 22 hg0 (n + 1 - i) (NC - i) ⟨vb, 0, none⟩ 1 1 1 (Nat.min_eq_left (by omega)) m.cells (by rw [hml]) (fun j u hu => by
      rw [Addr.add_mid, Nat.zero_add, cell_of_row _ vb j m.arr 75 (0, 0) hvb1]; simpa [Pr.arr] using hu) (cells_onesP m) hsp1
  have hw1 : (w.drew.alloc (.cells X 75)).setRow w.heap.size (spl X (i * 2) m.cells) = w.drew.alloc (.cells (spl X (i * 2) m.cells) 75) := World.setRow_alloc_new w.drew _ _ _
  rw [hw1] at hcp1
  have hcp1' : (cpRow #[22, 22] 3 #[.slice (some ⟨w.heap.size, i * 2, none⟩) (n + 1 - i) (NC - i), .slice (some ⟨vb, 0, none⟩) 1 1]).run Tryd.prog (w.alloc (.cells X 75)).drew = .ok (.int .i64 ((1 : Nat) : Int)) (w.alloc (.cells (spl X (i * 2) m.cells) 75)).drew := hcp1
  have hg1 : (w.drew.alloc (.cells (spl X (i * 2) m.cells) 75)).drew.heap[w.heap.size]? = some (.cells (spl X (i * 2) m.cells) 75 (0, 0)) := _root_.Go.heap_alloc_new w.drew _
  have hgg2 : (w.drew.alloc (.cells (spl X (i * 2) m.cells) 75)).drew.heap[g]? = some (.cells cur 75 (0, 0)) := (Below.heap_alloc w.drew _ g hglt).trans hg
  have hcp2 : (cpRow #[22, 22] 3 #[.slice (some ⟨w.heap.size, (i + 1) * 2, none⟩) (n - i) (NC - (i + 1)), .slice (some ⟨g, i * 2, none⟩) (n - i) (n - i)]).run Tryd.prog (w.drew.alloc (.cells (spl X (i * 2) m.cells) 75)).drew =
      .ok (.int .i64 ((n - i : Nat) : Int)) ((w.drew.alloc (.cells (spl X (i * 2) m.cells) 75)).drew.setRow w.heap.size (spl (spl X (i * 2) m.cells) ((i + 1) * 2) (flatC Pr.cells (ms.drop i)))) :=
    cp_row (P := Tryd.prog) Tryd.underlying22 hi0 hz1 _ 3 22 hg1 (n - i) (NC - (i + 1)) ⟨g, i * 2, none⟩ (n - i) (n - i) (n - i) (Nat.min_self _) _ hlen (fun j u hu => by
      rw [← flatC_drop hok.len (by omega), ← hx, List.getElem?_drop, List.getElem?_take] at hu
      split at hu
      · rw [Addr.add_mid, cell_of_row _ g _ cur 75 (0, 0) hgg2, ← hu, Array.getElem?_toList]
      · cases hu) (flatM_onesP _) hsp2
  have hcp2' : (cpRow #[22, 22] 3 #[.slice (some ⟨w.heap.size, (i + 1) * 2, none⟩) (n - i) (NC - (i + 1)), .slice (some ⟨g, i * 2, none⟩) (n - i) (n - i)]).run Tryd.prog (w.alloc (.cells (spl X (i * 2) m.cells) 75)).drew.drew =
      .ok (.int .i64 ((n - i : Nat) : Int)) ((w.drew.alloc (.cells (spl X (i * 2) m.cells) 75)).drew.setRow w.heap.size (spl (spl X (i * 2) m.cells) ((i + 1) * 2) (flatC Pr.cells (ms.drop i)))) := hcp2
  have HF := Lib.hid (inserted_ofP (v := .slice (some ⟨g, 0, none⟩) n n) (w := w) hok hm hl hi hB (setRow_heap _ w.heap.size _ (spl (spl X (i * 2) m.cells) ((i + 1) * 2) (flatC Pr.cells (ms.drop i))) 75 (0, 0) hg1) hNC1 hNC2 (by rw [spl_size hsp2, hsz1, hXs])
    (grow_takeP hok hm hl hi (by rw [hXs]; omega) hXt) (grown_new (grown_drew (grown_alloc (grown_drew (grown_refl w _)) _)) (Nat.le_refl _) _) (.inr (Nat.le_refl _)))
  have hq : ((i : Int) == (n : Int)) = false := by rw [beq_eq_false_iff_ne]; omega
  have hc1 : ¬ NC = i + 1 := by omega
  have hc2 : ¬ NC = i := by omega
  have hc3 : ¬ n = i := by omega
  have hNC3 : (NC : Int) ≤ 9223372036854775807 := by simp only [maxLen] at hNC2; omega
  have hNC4 : (n : Int) + 1 ≤ (NC : Int) := by omega
  clear hcp1 hcp2 hw1 hg0 hg1 hgg1 hgg2 hvb1 hg hvb hx hcs hlen hml hsp1 hsp2 hsz1 hi0 hz0 hz1 hz2 hap hX hXs hXt hNC hNC2 htk hlt
  go_enter Tryd.func66, Tryd.ntmps66
  go_wp2_with fail
  refine wp_region_tail_lit 8 (by kernel_rfl) (by kernel_rfl) ?_
  simp only [List.take_succ_cons, List.take_zero, List.drop_succ_cons, List.drop_zero]
  repeat (go_big_quiet_step (fail))
  refine wpQuiet_nil ?_
  go_wp2_with fail
  go_ret
  exact HF.out

/-- a member is put into a row, wherever -/
theorem insert_anyP {B n i vb : Nat} {v : Value} {ms : List Pr} {m : Pr} {w : World} (h : w.ownsRow B 75 2 v n (flatC Pr.cells ms)) (hok : OkAllP ms) (hm : m.ok) (hi : i ≤ n) (hn : (n + 1) * 32 ≤ 140737488355328) (hB : B ≤ w.heap.size)
    (hvb : w.heap[vb]? = some (.cells m.arr 75 (0, 0))) (hne : v.ownBlock ≠ some vb) (hnn : ∃ g cap, v = .slice (some ⟨g, 0, none⟩) n cap) :
    Calls Tryd.prog 66 #[v, .int .i64 (i : Int), .slice (some ⟨vb, 0, none⟩) 1 1] w (InsertedP ms m i n B v w) := by
  have hl : ms.length = n := by
    have := h.1
    rw [flatC_length hok.len] at this
    omega
  by_cases hin : i = n
  · subst hin
    exact insert_endP h hok hm hn hB hvb hnn
  · rcases h.2 with ⟨h0, _⟩ | ⟨g, cap, cur, rfl, hb, hg, hnc, hcm, hcs, hx⟩
    · obtain ⟨g, cap, hv⟩ := hnn
      rw [hv] at h0
      cases h0
    · by_cases hr : n + 1 ≤ cap
      · exact insert_roomP hok hm hl (by omega) hb hg hr hcm hcs hx hvb (fun e => hne (by rw [e]; rfl)) (by omega)
      · obtain rfl : cap = n := by omega
        exact insert_growP hok hm hl (by omega) hB hg hcs hx hvb hn

end Go.Proofs.YtfnfgnhbnffagaaDoor
