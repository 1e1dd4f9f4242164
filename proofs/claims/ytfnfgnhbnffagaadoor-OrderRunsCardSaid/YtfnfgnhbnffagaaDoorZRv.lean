/-
OrderRuns: whatever is executed one behind the other, and seen so, is borne out by its log, and linear (the walk).
-/
import Derived.Test.YtfnfgnhbnffagaaDoorZRu
import Derived.Deep.RegionHeld3
namespace Go.Proofs.YtfnfgnhbnffagaaDoor
open Go.RowKit
set_option linter.unusedVariables false
set_option linter.unusedSimpArgs false
set_option maxRecDepth 100000
@[go_sem ↓] theorem ap_Ev (ty : TypeId) (args : Array Value) : Builtin.append_ #[30, 30] ty args = apRow #[30, 30] ty args := rfl
theorem lay_list (cs : Array Value) (off : Nat) (vs : Array Value) : (lay cs off vs).toList = cs.toList.take off ++ vs.toList ++ cs.toList.drop (off + vs.size) := by
  unfold lay
  rw [Array.toList_append, Array.toList_append, Array.toList_extract, Array.toList_extract, List.extract_eq_take_drop, List.extract_eq_take_drop]
  simp
  rw [List.take_of_length_le (by simp)]
theorem fill_ev {q : Rq} (hq : q.ok) (r : Rp) (c e : Int) : Instr.fill ((#[(0, 42), (42, 4), (46, 1), (47, 1)] : Array (Nat × Nat))[·]?) Ev.zero.arr [(0, .agg q.arr), (1, .agg r.arr), (2, .int .i64 c), (3, .int .i64 e)] = some (Ev.arr ⟨q, r, c, e⟩) := by
  have hz : Ev.zero.arr.size = 48 := Ev.size Ev.zero_ok
  have sq : q.arr.size = 42 := Rq.size hq
  have sr : r.arr.size = 4 := rfl
  have l1 : (lay Ev.zero.arr 0 q.arr).size = 48 := by rw [← Array.length_toList, lay_list]; simp [sq, hz]
  have l2 : (lay (lay Ev.zero.arr 0 q.arr) 42 r.arr).size = 48 := by rw [← Array.length_toList, lay_list]; simp [sr, l1]
  have l3 : (lay (lay (lay Ev.zero.arr 0 q.arr) 42 r.arr) 46 (Value.int .i64 c).cells).size = 48 := by rw [← Array.length_toList, lay_list]; simp [l2, Value.cells]
  rw [fill_cons _ _ _ _ _ 0 42 rfl (by exact sq) (by omega), fill_cons _ _ _ _ _ 42 4 rfl (by exact sr) (by rw [show (Value.agg q.arr).cells = q.arr from rfl]; omega), fill_cons _ _ _ _ _ 46 1 rfl rfl (by rw [show (Value.agg q.arr).cells = q.arr from rfl, show (Value.agg r.arr).cells = r.arr from rfl]; omega), fill_cons _ _ _ _ _ 47 1 rfl rfl (by rw [show (Value.agg q.arr).cells = q.arr from rfl, show (Value.agg r.arr).cells = r.arr from rfl]; omega), fill_nil]
  refine congrArg some (Array.ext' ?_)
  rw [lay_list, lay_list, lay_list, lay_list]
  have hq' : q.cells.length = 42 := Rq.len hq
  have hzl : Ev.zero.arr.toList.length = 48 := by simpa using hz
  generalize Ev.zero.arr.toList = z at hzl
  show _ = q.cells ++ [.int .i64 r.client, .int .i64 r.num, .int .i64 r.code, .slice r.A r.vals.length r.cap, .int .i64 c, .int .i64 e]
  show _ = _
  have e1 : (Value.agg q.arr).cells.toList = q.cells := rfl
  have e2 : (Value.agg r.arr).cells.toList = [.int .i64 r.client, .int .i64 r.num, .int .i64 r.code, .slice r.A r.vals.length r.cap] := rfl
  have e3 : (Value.agg q.arr).cells.size = 42 := sq
  have e4 : (Value.agg r.arr).cells.size = 4 := rfl
  have e5 : (Value.int .i64 c).cells.toList = [.int .i64 c] := rfl
  have e6 : (Value.int .i64 e).cells.toList = [.int .i64 e] := rfl
  have e7 : (Value.int .i64 c).cells.size = 1 := rfl
  have e8 : (Value.int .i64 e).cells.size = 1 := rfl
  rw [e1, e2, e3, e4, e5, e6, e7, e8]
  obtain ⟨z5, hz5⟩ : ∃ z5, z.drop 42 = z5 := ⟨_, rfl⟩
  have hz6 : z5.length = 6 := by rw [← hz5, List.length_drop, hzl]
  simp only [List.take_zero, List.nil_append, Nat.zero_add]
  rw [hz5]
  obtain ⟨x0, x1, x2, x3, x4, x5, rfl⟩ : ∃ x0 x1 x2 x3 x4 x5, z5 = [x0, x1, x2, x3, x4, x5] := by
    match z5, hz6 with
    | [x0, x1, x2, x3, x4, x5], _ => exact ⟨x0, x1, x2, x3, x4, x5, rfl⟩
  have hk : ∀ i, 42 ≤ i → q.cells.take i = q.cells := fun i hi => List.take_of_length_le (by omega)
  have hd : ∀ i, 42 ≤ i → q.cells.drop i = [] := fun i hi => List.drop_of_length_le (by omega)
  simp [List.take_append, List.drop_append, hq', hk, hd]
theorem build_ev {q : Rq} (hq : q.ok) (r : Rp) (c e : Int) (w : World) : (bdRow 51 #[(0, .agg q.arr), (1, .agg r.arr), (2, .int .i64 c), (3, .int .i64 e)]).run Tryd.prog w = .ok (.agg (Ev.arr ⟨q, r, c, e⟩)) w := run_bdEv w _ _ (fill_ev hq r c e)
/-- an event is put behind the others -/
theorem pushE {w : World} {B n : Nat} {v : Value} {qs : List Ev} (ty : TypeId) (h : w.ownsRow B 51 48 v n (flatC Ev.cells qs)) {x : Ev} (hx : x.ok) (hn : n ≤ 100000) (hB : B ≤ w.heap.size) :
    ∃ v' w', (apRow #[30, 30] ty #[v, .slice (some ⟨w.heap.size, 0, none⟩) 1 1]).run Tryd.prog (w.alloc (.cells x.arr 51)) = .ok v' w' ∧ w'.ownsRow B 51 48 v' (n + 1) (flatC Ev.cells (qs ++ [x])) ∧ Mv (fun k => v.ownBlock = some k) w w' ∧ (v'.ownBlock = v.ownBlock ∨ v'.ownBlock = some (w.heap.size + 1)) := by
  obtain ⟨i0, hi, hz0, hz1, hz2⟩ := info_parts infoME
  obtain ⟨v', w', h1, h2, h3, -, h5⟩ := run_append_own_at (P := Tryd.prog) (w.alloc (.cells x.arr 51)) B 30 ty 51 i0 (.agg Ev.zero.arr) 48 200 Tryd.underlying30 hi hz0 hz1 hz2 (Ev.size Ev.zero_ok) (by decide) v n (flatC Ev.cells qs) (World.ownsRow.alloc h _) ⟨w.heap.size, 0, none⟩ 1 1 x.cells (by rw [Ev.len hx])
    (fun j u hu => by rw [Addr.add_mid, Nat.zero_add, World.cell?_alloc_at _ _ _ _ rfl]; simpa [Ev.arr] using hu) (cells_onesE x) (by simp only [maxLen]; omega) (by omega) (by simp; omega)
  have hmv : Mv (fun k => v.ownBlock = some k) w w' := (Mv.alloc w _).trans (Mv.of_grown (fp := fun k => v.ownBlock = some k) h3 (fun k hk => hk)) (fun i _ c => c)
  refine ⟨v', w', h1, ?_, hmv, by simpa using h5⟩
  rw [flatC_append, flatC_one]
  exact h2
/-- what stands ahead of a round over the log: X: the registry's box; W: the law's world, W5: behind that box -/
structure RunW (W W5 : World) (X : Nat) (s0 : Reg) (rs : List Rp) (qs : List Rq) (k : Nat) (A5 : Option Addr) (c5 : Nat) (A1 : Option Addr) (n1 c1 : Nat) (A2 : Option Addr) (n2 c2 : Nat) (ek : Int) (A3 : Option Addr) (n3 c3 : Nat) (ps : List Pr) (rk : List Rp) (ms : List Mb) (es : List Ev) (w : World) : Prop where
  b : Below W.heap.size W w
  m : Mv (fun b => b = X) W5 w
  box : w.heap[X]? = some (.cells #[.slice A1 n1 c1, .slice A2 n2 c2, .int .i64 ek, .slice A3 n3 c3] 28 (0, 0))
  st : ∀ w'', Mv (fun b => b = X ∨ (Value.slice A5 k c5).ownBlock = some b) w w'' → StS w'' (.agg #[.slice A1 n1 c1, .slice A2 n2 c2, .int .i64 ek, .slice A3 n3 c3]) ps rk ek ms
  own : w.ownsRow W5.heap.size 51 48 (.slice A5 k c5) k (flatC Ev.cells es)
  ev : ∀ e ∈ es, e.ok ∧ ∀ w'', Mv (fun b => b = X ∨ (Value.slice A5 k c5).ownBlock = some b) w w'' → RpS w'' e.r
  run : RunS s0 rs qs k ps rk ek ms es
  len : rk.length ≤ 100 + k

set_option maxHeartbeats 16000000 in
theorem runs24_walk (v : Value) (ps : List Pr) (rs : List Rp) (ep : Int) (ms : List Mb) (A : Option Addr) (n cap : Nat) (qs : List Rq) (w : World) (h : StS w v ps rs ep ms) (hep : (Lit.int .i64 ep).wf = true) (hqs : QS w A n qs) (hqo : SlOk A n) (hqc : n ≤ cap) (hpw : Pow w) :
    Calls Tryd.prog 4 #[v, .slice A n cap] w fun e w' => e = .returned (.bool true) ∧ Below w.heap.size w w' := by
  have hokm : OkAll ms := by
    obtain ⟨_, _, _, _, _, _, _, _, _, _, _, M, _⟩ := h.ex
    exact M.ok
  have hokr : ∀ r ∈ rs, r.ok := by
    obtain ⟨_, _, _, _, _, _, _, _, _, M, _⟩ := h.ex
    exact M.ok
  obtain ⟨Ap, cp, Ar, cr, Am, cm, hv, -⟩ := h.ex
  obtain ⟨np, hnp⟩ : ∃ n, ps.length = n := ⟨_, rfl⟩
  obtain ⟨nr, hnr⟩ : ∃ n, rs.length = n := ⟨_, rfl⟩
  obtain ⟨nm, hnm⟩ : ∃ n, ms.length = n := ⟨_, rfl⟩
  rw [hnp, hnr, hnm] at hv
  subst hv
  obtain ⟨w1, hw1⟩ : ∃ w1, w.alloc (.cells #[.slice Ap np cp, .slice Ar nr cr, .int .i64 ep, .slice Am nm cm] 28) = w1 := ⟨_, rfl⟩
  have hb1 : Below w.heap.size w w1 := by rw [← hw1]; exact (Below.refl _ _).alloc (Nat.le_refl _) _
  have hg1 : w1.heap[w.heap.size]? = some (.cells #[.slice Ap np cp, .slice Ar nr cr, .int .i64 ep, .slice Am nm cm] 28 (0, 0)) := by rw [← hw1]; exact heap_alloc_new w _
  have r1 : rowAt w1 w.heap.size 0 4 = some #[.slice Ap np cp, .slice Ar nr cr, .int .i64 ep, .slice Am nm cm] := by unfold rowAt; rw [hg1]; exact cut_all _ _ rfl
  have hlt1 : w.heap.size < w1.heap.size := (Array.getElem?_eq_some_iff.1 hg1).1
  have E := Lib.hid (And.intro h (And.intro hep (And.intro hqs (And.intro hqo (And.intro hqc (And.intro hpw (And.intro hokm (And.intro hokr hb1))))))))
  clear h hep hqs hqo hqc hpw hokm hokr hb1 hg1 hnp hnr hnm
  go_enter Tryd.func4, Tryd.ntmps4
  go_wp2_with fail
  clear hw1
  refine (alive_any _ (E.out.2.2.2.2.2.1.below E.out.2.2.2.2.2.2.2.2)).mono ?_
  rintro e w2 ⟨rfl, hb2⟩
  have r2 := (rowAt_below hb2 hlt1 0 4).trans r1
  have hlt2 : w.heap.size < w2.heap.size := Nat.lt_of_lt_of_le hlt1 hb2.size
  have HB2 := Lib.hid (E.out.2.2.2.2.2.2.2.2.trans (hb2.mono E.out.2.2.2.2.2.2.2.2.size))
  clear hb2 r1 hlt1
  go_wp2_with fail
  have hesn : ES w2 none 0 [] := ⟨rfl, by decide, fun m hm => (by cases hm), fun h => absurd h (by decide)⟩
  refine (great24_any _ ps rs ep ms A n cap qs none 0 0 [] 0 _ (E.out.1.below HB2.out) (E.out.2.2.1.below HB2.out) E.out.2.2.2.1 hesn (fun m hm => (by cases hm)) (by omega)).mono ?_
  rintro e w3 ⟨b, rfl, hf, hb3⟩
  have r3 := (rowAt_below hb3 hlt2 0 4).trans r2
  have hlt3 : w.heap.size < w3.heap.size := Nat.lt_of_lt_of_le hlt2 hb3.size
  clear hesn
  cases b with
  | true =>
    have HB3 := Lib.hid (HB2.out.trans (hb3.mono HB2.out.size))
    clear hf hb3 r2 hlt2
    go_wp2_with fail
    go_ret
    exact ⟨rfl, HB3.out⟩
  | false =>
    have HB3 := Lib.hid (And.intro (HB2.out.trans (hb3.mono HB2.out.size)) (hf rfl))
    clear hf hb3 r2 hlt2
    by_cases h6 : (6 : Int) < n
    · go_wp2_with fail
      go_ret
      exact ⟨rfl, HB3.out.1⟩
    have d6 : decide ((6 : Int) < n) = false := decide_eq_false h6
    have hn6 : (n : Int) ≤ 6 := by omega
    have hncap : (n : Int) ≤ cap := by have := E.out.2.2.2.2.1; omega
    clear h6
    obtain ⟨w5, hw5⟩ : ∃ w5, w3.alloc (.cells #[.slice Ap np cp, .slice Ar nr cr, .int .i64 ep, .slice Am nm cm] 28) = w5 := ⟨_, rfl⟩
    have hb5 : Below w3.heap.size w3 w5 := by rw [← hw5]; exact (Below.refl _ _).alloc (Nat.le_refl _) _
    have hg5 : w5.heap[w3.heap.size]? = some (.cells #[.slice Ap np cp, .slice Ar nr cr, .int .i64 ep, .slice Am nm cm] 28 (0, 0)) := by rw [← hw5]; exact heap_alloc_new w3 _
    have hX5 : w3.heap.size < w5.heap.size := (Array.getElem?_eq_some_iff.1 hg5).1
    have hB5 := HB3.out.1.trans (hb5.mono HB3.out.1.size)
    have hfit := fits_of HB3.out.2.f E.out.2.2.2.2.2.2.1 E.out.2.1
    have honce := once_of HB3.out.2.a.r
    have r5 : rowAt w5 w.heap.size 0 4 = some #[.slice Ap np cp, .slice Ar nr cr, .int .i64 ep, .slice Am nm cm] := (rowAt_below hb5 hlt3 0 4).trans r3
    have hR0 : RunW w w5 w3.heap.size ⟨ps, rs.map Rp.d, ep, ms⟩ rs qs 0 none 0 Ap np cp Ar nr cr ep Am nm cm ps rs ms [] w5 :=
      ⟨hB5, Mv.refl _ _, hg5, fun w'' m => E.out.1.below (hB5.trans (m.below hB5.size (fun i hi => by
        have hi' : i = w3.heap.size ∨ (Value.slice none 0 0).ownBlock = some i := hi
        rcases hi' with hi' | hi'
        · have := HB3.out.1.size; omega
        · cases hi'))), World.ownsRow_nil _ _ _ _, fun e he => (by cases he), RunS.start qs (srt_of HB3.out.2.a.p) E.out.2.2.2.2.2.2.2.1 hfit, by have := HB3.out.2.f.r; omega⟩
    have K := Lib.hid (And.intro hR0 (And.intro hfit (And.intro honce (And.intro hB5 (And.intro hX5 (show w.heap.size < w3.heap.size from hlt3))))))
    clear hR0 hfit honce hB5 hX5 hb5 hg5 hlt3
    go_wp2_with fail
    clear hw5 r3
    go_loopw [5, 28] (fun t5 t28 wr => ∃ k : Nat, k ≤ n ∧ t28 = .int .i64 k ∧ ∃ A5 c5, t5 = .slice A5 k c5 ∧ ∃ A1 n1 c1 A2 n2 c2 ek A3 n3 c3 psk rk msk es, RunW w w5 w3.heap.size ⟨ps, rs.map Rp.d, ep, ms⟩ rs qs k A5 c5 A1 n1 c1 A2 n2 c2 ek A3 n3 c3 psk rk msk es wr) (fun _ t _ => n - (intOf t).toNat)
    case atStart => exact ⟨0, by omega, rfl, none, 0, rfl, _, _, _, _, _, _, _, _, _, _, _, _, _, _, K.out.1⟩
    case round =>
      obtain ⟨k, hk, rfl, A5, c5, rfl, A1, n1, c1, A2, n2, c2, ek, A3, n3, c3, psk, rk, msk, es, RW⟩ := hrel
      obtain ⟨wo, rfl⟩ : ∃ wo, wo = wr := ⟨_, rfl⟩
      have hk0 : (0 : Int) ≤ k := by omega
      by_cases hlt : k < n
      · have hk1 : (k : Int) < n := by omega
        obtain ⟨b, off, rfl, hbb, hrow⟩ := E.out.2.2.1.mem (by omega)
        have hrow' : ∀ w', Below w.heap.size w w' → ∀ j, j < n → rowAt w' b (off + j * 42) 42 = some (qs.getD j default).arr := fun w' hb' j hj => (rowAt_below hb' hbb _ _).trans (hrow j hj)
        have hr := hrow' wo RW.b k hlt
        have hok := E.out.2.2.1.okAt hlt
        have hin := in_getD (l := qs) (k := k) (by rw [E.out.2.2.1.len]; exact hlt)
        have hsh := HB3.out.2.q _ (List.mem_append_left _ hin)
        obtain ⟨q, hq⟩ : ∃ q, qs.getD k default = q := ⟨_, rfl⟩
        rw [hq] at hr hok hsh
        have hfew : q.few := ⟨hok, hsh.k, hsh.v, hsh.o⟩
        have qs1 := Rq.sz hok
        have qo1 := Rq.ones q
        have q0 := q.at0
        have q1 := q.at1
        obtain ⟨w6, hw6⟩ : ∃ w6, wo.alloc (.cells q.arr 46) = w6 := ⟨_, rfl⟩
        have hb6 : Below wo.heap.size wo w6 := by rw [← hw6]; exact (Below.refl _ _).alloc (Nat.le_refl _) _
        have hg6 : w6.heap[wo.heap.size]? = some (.cells q.arr 46 (0, 0)) := by rw [← hw6]; exact heap_alloc_new wo _
        have hl6 : wo.heap.size < w6.heap.size := (Array.getElem?_eq_some_iff.1 hg6).1
        have hbw6 := RW.b.trans (hb6.mono RW.b.size)
        have hX6 : w3.heap.size < wo.heap.size := Nat.lt_of_lt_of_le K.out.2.2.2.2.1 RW.m.size
        have hQ8 : ∀ w', Below w6.heap.size w6 w' → rowAt w' wo.heap.size 0 42 = some q.arr ∧ (w'.cell? ⟨wo.heap.size, 0, none⟩ = some (.int .i64 q.client) ∧ w'.cell? ⟨wo.heap.size, 1, none⟩ = some (.int .i64 q.num)) ∧ (rowAt w' w3.heap.size 0 4 = some #[.slice A1 n1 c1, .slice A2 n2 c2, .int .i64 ek, .slice A3 n3 c3] ∧ w'.cell? ⟨w3.heap.size, 1, none⟩ = some (.slice A2 n2 c2)) ∧ (∀ w'', Mv (fun b => (b = w3.heap.size ∨ (Value.slice A5 k c5).ownBlock = some b) ∨ wo.heap.size ≤ b) w' w'' → StS w'' (.agg #[.slice A1 n1 c1, .slice A2 n2 c2, .int .i64 ek, .slice A3 n3 c3]) psk rk ek msk) := fun w' hb' => by
          have x1 := (hb'.block _ hl6).trans hg6
          have x2 := ((hb'.block _ (Nat.lt_trans hX6 hl6)).trans (hb6.block _ hX6)).trans RW.box
          have x3 := hb6.trans (hb'.mono hb6.size)
          exact ⟨by unfold rowAt; rw [x1]; exact Rq.cutAll (Rq.size hok), ⟨cell_of_row x1 q0, cell_of_row x1 q1⟩, ⟨by unfold rowAt; rw [x2]; exact cut_all _ _ rfl, cell_of_row x2 rfl⟩, fun w'' m => RW.st w'' ((Mv.of_below (fp := fun b => b = w3.heap.size ∨ (Value.slice A5 k c5).ownBlock = some b) x3).trans m (fun i hi c => c.elim id (fun c => by omega)))⟩
        have Q := Lib.hid (And.intro RW (And.intro hrow' (And.intro hok (And.intro hfew (And.intro hq (And.intro hb6 (And.intro hg6 (And.intro hl6 (And.intro hbw6 hQ8)))))))))
        clear RW hrow' hok hfew hin hsh hq hb6 hg6 hl6 hbw6 hrow hQ8 hX6
        have hkc : (k : Int) ≤ cap := by omega
        go_wp2_with fail
        clear hw6
        go_loopw [37] (fun t37 wv => ∃ j : Nat, j ≤ k ∧ t37 = .int .i64 j ∧ Below w6.heap.size w6 wv ∧ ∀ i, i < j → (qs.getD i default).client ≠ q.client) (fun t _ => k - (intOf t).toNat)
        case atStart => exact ⟨0, by omega, rfl, Below.refl _ _, fun i hi => by omega⟩
        case round =>
          obtain ⟨j, hj, rfl, hbv, hnc⟩ := hrel
          have hj0 : (0 : Int) ≤ j := by omega
          by_cases hjl : j < k
          · have hj1 : (j : Int) < k := by omega
            have hro := Q.out.2.1 wr (Q.out.2.2.2.2.2.2.2.2.1.trans (hbv.mono Q.out.2.2.2.2.2.2.2.2.1.size)) j (by omega)
            have hoo := E.out.2.2.1.okAt (show j < n by omega)
            obtain ⟨o, ho⟩ : ∃ o, qs.getD j default = o := ⟨_, rfl⟩
            rw [ho] at hro hoo
            have os1 := Rq.sz hoo
            have oo1 := Rq.ones o
            have oa0 := o.at0
            have cq : (wr.alloc (.cells o.arr 46)).cell? ⟨_, 0, none⟩ = some (.int .i64 q.client) := cell_of_row ((Below.heap_alloc _ _ _ (Nat.lt_of_lt_of_le Q.out.2.2.2.2.2.2.2.1 hbv.size)).trans ((hbv.block _ Q.out.2.2.2.2.2.2.2.1).trans Q.out.2.2.2.2.2.2.1)) q0
            have V := Lib.hid (And.intro hbv (And.intro hnc ho))
            clear hbv hnc ho hoo
            cases hc : o.client == q.client with
            | true =>
              go_wp2_with fail
              go_ret
              have b1 := Q.out.2.2.2.2.2.2.2.2.1.trans (V.out.1.mono Q.out.2.2.2.2.2.2.2.2.1.size)
              exact ⟨rfl, b1.alloc b1.size _⟩
            | false =>
              have HC := Lib.hid (beq_eq_false_iff_ne.1 hc)
              go_wp2_with fail
              go_roundw
              case rel =>
                refine ⟨j + 1, by omega, by go_num, V.out.1.alloc V.out.1.size _, fun i hi => ?_⟩
                rcases Nat.lt_or_ge i j with c | c
                · exact V.out.2.1 i c
                · obtain rfl : i = j := by omega
                  rw [V.out.2.2]; exact HC.out
              case measure => simp [intOf]; omega
          · have hjk : k = j := by omega
            subst hjk
            obtain ⟨hq42, ⟨hqc0, hqc1⟩, ⟨hx4, hx1⟩, hst⟩ := Q.out.2.2.2.2.2.2.2.2.2 wr hbv
            have V := Lib.hid (And.intro hbv hnc)
            have hs7 := hst wr (Mv.refl _ _)
            clear hbv hnc hst
            go_wp2_with fail
            refine (last10_any _ psk rk ek msk q.client wr hs7).mono ?_
            rintro e w8 ⟨⟨i, rfl, hi⟩, hb8⟩
            have hV8 := V.out.1.trans (hb8.mono V.out.1.size)
            clear hq42 hqc0 hqc1 hx4 hx1 hs7
            cases hgq : rqGood q with
            | false =>
              obtain ⟨hq42, ⟨hqc0, hqc1⟩, ⟨hx4, hx1⟩, hst⟩ := Q.out.2.2.2.2.2.2.2.2.2 w8 hV8
              clear hst
              have hlo8 : wo.heap.size < w8.heap.size := Nat.lt_of_lt_of_le Q.out.2.2.2.2.2.2.2.1 hV8.size
              have hlx8 : w3.heap.size < w8.heap.size := Nat.lt_of_lt_of_le (Nat.lt_of_lt_of_le K.out.2.2.2.2.1 Q.out.1.m.size) (Nat.le_of_lt hlo8)
              go_wp2_with fail
              refine wp_region_later_lit (by kernel_rfl) (by kernel_rfl) ?_
              repeat (go_big_quiet_step (first | (go_at_call 12; rename_i xx; have hcall := refGood09_any Q.out.2.2.1 xx.world; rw [hgq] at hcall; exact Later.call hcall)))
              refine wpQuiet_nil ?_
              intro w9 hxx
              have hb9 : Below w8.heap.size w8 w9 := by obtain ⟨x, rfl⟩ := hxx; exact x.below
              clear hxx
              have hV9 := hV8.trans (hb9.mono hV8.size)
              have HZ := Lib.hid (Q.out.2.2.2.2.2.2.2.2.1.trans (hV9.mono Q.out.2.2.2.2.2.2.2.2.1.size))
              clear hb9 hV9 hV8
              go_wp2_with fail
              go_ret
              exact ⟨rfl, HZ.out⟩
            | true =>
              obtain ⟨hq42, ⟨hqc0, hqc1⟩, ⟨hx4, hx1⟩, hst⟩ := Q.out.2.2.2.2.2.2.2.2.2 w8 hV8
              clear hst
              have hlo8 : wo.heap.size < w8.heap.size := Nat.lt_of_lt_of_le Q.out.2.2.2.2.2.2.2.1 hV8.size
              have hlx8 : w3.heap.size < w8.heap.size := Nat.lt_of_lt_of_le (Nat.lt_of_lt_of_le K.out.2.2.2.2.1 Q.out.1.m.size) (Nat.le_of_lt hlo8)
              by_cases hstop : ∃ k' : Nat, i = (k' : Int) ∧ k' < rk.length ∧ q.num ≤ (rk.getD k' default).num
              · obtain ⟨k', rfl, hk', hnum⟩ := hstop
                have hs8 := (Q.out.2.2.2.2.2.2.2.2.2 w8 hV8).2.2.2 w8 (Mv.refl _ _)
                have hR8 : RS w8 A2 rk.length rk ∧ n2 = rk.length := by
                  obtain ⟨_, _, _, _, _, _, hv, _, _, h3, h4, _⟩ := hs8.ex
                  simp only [Value.agg.injEq] at hv
                  have h5 := congrArg (fun a : Array Value => a[1]?) hv
                  simp at h5
                  obtain ⟨rfl, rfl, -⟩ := h5
                  exact ⟨h3, rfl⟩
                obtain ⟨hR8, hn2⟩ := hR8
                obtain ⟨b2, off2, rfl, hbb2, hrow2⟩ := hR8.mem (by omega)
                have hx0 := cell_of_rowAt (hrow2 k' hk') 1 _ (Rp.at1 _)
                have hk0' : (0 : Int) ≤ k' := by omega
                have hk1' : (k' : Int) < n2 := by omega
                clear hrow2 hR8 hs8 hn2
                obtain ⟨num, hnu⟩ : ∃ num, (rk.getD k' default).num = num := ⟨_, rfl⟩
                rw [hnu] at hx0
                have hdn : decide (q.num ≤ num) = true := decide_eq_true (by omega)
                clear hnum hi hnu
                go_wp2_with fail
                refine wp_region_later_lit (by kernel_rfl) (by kernel_rfl) ?_
                repeat (go_big_quiet_step (first | (go_at_call 12; rename_i xx; have hcall := refGood09_any Q.out.2.2.1 xx.world; rw [hgq] at hcall; exact Later.call hcall)))
                refine wpQuiet_nil ?_
                intro w9 hxx
                have hb9 : Below w8.heap.size w8 w9 := by obtain ⟨x, rfl⟩ := hxx; exact x.below
                clear hxx
                have hV9 := hV8.trans (hb9.mono hV8.size)
                have HZ := Lib.hid (Q.out.2.2.2.2.2.2.2.2.1.trans (hV9.mono Q.out.2.2.2.2.2.2.2.2.1.size))
                clear hb9 hV9 hV8
                go_wp2_with fail
                go_ret
                exact ⟨rfl, HZ.out⟩
              have hi0 := hi
              rcases hi0 with ⟨rfl, hno⟩ | ⟨k', hk', rfl, hkc, hkb⟩
              focus
                have hfr : ∀ k' : Nat, (-1 : Int) = (k' : Int) → (rk.getD k' default).num < q.num := fun k' c => by omega
                have HI := Lib.hid (And.intro hi hfr)
                clear hi hno hfr hstop
                go_wp2_with fail
                refine wp_region_later_lit (by kernel_rfl) (by kernel_rfl) ?_
                repeat (go_big_quiet_step (first | (go_at_call 12; rename_i xx; have hcall := refGood09_any Q.out.2.2.1 xx.world; rw [hgq] at hcall; exact Later.call hcall)))
                refine wpQuiet_nil ?_
                intro w9 hxx
                have hb9 : Below w8.heap.size w8 w9 := by obtain ⟨x, rfl⟩ := hxx; exact x.below
                clear hxx
              rotate_left
              focus
                have hs8 := (Q.out.2.2.2.2.2.2.2.2.2 w8 hV8).2.2.2 w8 (Mv.refl _ _)
                have hR8 : RS w8 A2 rk.length rk ∧ n2 = rk.length := by
                  obtain ⟨_, _, _, _, _, _, hv, _, _, h3, h4, _⟩ := hs8.ex
                  simp only [Value.agg.injEq] at hv
                  have h5 := congrArg (fun a : Array Value => a[1]?) hv
                  simp at h5
                  obtain ⟨rfl, rfl, -⟩ := h5
                  exact ⟨h3, rfl⟩
                obtain ⟨hR8, hn2⟩ := hR8
                obtain ⟨b2, off2, rfl, hbb2, hrow2⟩ := hR8.mem (by omega)
                have hx0 := cell_of_rowAt (hrow2 k' hk') 1 _ (Rp.at1 _)
                have hk0' : (0 : Int) ≤ k' := by omega
                have hk1' : (k' : Int) < n2 := by omega
                clear hrow2 hR8 hs8 hn2
                obtain ⟨num, hnu⟩ : ∃ num, (rk.getD k' default).num = num := ⟨_, rfl⟩
                rw [hnu] at hx0
                have hnum : num < q.num := by
                  rcases Int.lt_or_le num q.num with c | c
                  · exact c
                  · exact absurd ⟨k', rfl, hk', by rw [hnu]; exact c⟩ hstop
                have hdn : decide (q.num ≤ num) = false := decide_eq_false (by omega)
                have hfr : ∀ k'' : Nat, (k' : Int) = (k'' : Int) → (rk.getD k'' default).num < q.num := fun k'' c => by
                  obtain rfl : k' = k'' := by omega
                  rw [hnu]; exact hnum
                have HI := Lib.hid (And.intro hi hfr)
                clear hi hfr hnum hnu hstop hkc hkb
                go_wp2_with fail
                refine wp_region_later_lit (by kernel_rfl) (by kernel_rfl) ?_
                repeat (go_big_quiet_step (first | (go_at_call 12; rename_i xx; have hcall := refGood09_any Q.out.2.2.1 xx.world; rw [hgq] at hcall; exact Later.call hcall)))
                refine wpQuiet_nil ?_
                intro w9 hxx
                have hb9 : Below w8.heap.size w8 w9 := by obtain ⟨x, rfl⟩ := hxx; exact x.below
                clear hxx
                clear hx0 hdn hbb2
              all_goals
                have hV9 := hV8.trans (hb9.mono hV8.size)
                clear hq42 hqc0 hqc1 hx4 hx1 hlo8 hlx8 hb9 hV8
                obtain ⟨w10, hw10⟩ : ∃ w10, w9.alloc (.cells #[.int .i64 0, .int .i64 0, .int .i64 0, .slice none 0 0] 49) = w10 := ⟨_, rfl⟩
                have hb10 : Below w9.heap.size w9 w10 := by rw [← hw10]; exact (Below.refl _ _).alloc (Nat.le_refl _) _
                have hg10 : w10.heap[w9.heap.size]? = some (.cells #[.int .i64 0, .int .i64 0, .int .i64 0, .slice none 0 0] 49 (0, 0)) := by rw [← hw10]; exact heap_alloc_new w9 _
                have hl10 : w9.heap.size < w10.heap.size := (Array.getElem?_eq_some_iff.1 hg10).1
                have hV10 := hV9.trans (hb10.mono hV9.size)
                have hz := Q.out.1.run.fit.z
                rw [Q.out.1.run.hp, Q.out.1.run.he, Q.out.1.run.hm] at hz
                obtain ⟨hq42, -, ⟨hx4, -⟩, hst⟩ := Q.out.2.2.2.2.2.2.2.2.2 w10 hV10
                have hAp := apply10_any _ psk rk ek msk q _ _ w10 hst Q.out.1.run.srt Q.out.2.2.1 hgq HI.out.1 HI.out.2 (by have := hz.p; omega) (by have := Q.out.1.len; omega) ⟨by have := hz.m; omega, hz.e, E.out.2.2.2.2.2.1.below (Q.out.2.2.2.2.2.2.2.2.1.trans (hV10.mono Q.out.2.2.2.2.2.2.2.2.1.size))⟩
                have T := Lib.hid (And.intro hV9 (And.intro hb10 (And.intro hg10 (And.intro hl10 (And.intro hV10 (V.out.2))))))
                clear hst hz hV9 hb10 hg10 hl10 hV10
                go_wp2_with fail
                clear hw10 hx4 hq42
                refine hAp.mono ?_
                rintro e w11 ⟨v', code, Av, nv, cv, ps', rs', ep', ms', out, rfl, hK, hso, hdo, hrs, hb11⟩
                clear hAp
                obtain ⟨hst, hts⟩ := hK w11 (Mv.refl _ _)
                obtain ⟨B1, d1, B2, d2, B3, d3, hv', -⟩ := hst.ex
                obtain ⟨m1, hm1⟩ : ∃ m, ps'.length = m := ⟨_, rfl⟩
                obtain ⟨m2, hm2⟩ : ∃ m, rs'.length = m := ⟨_, rfl⟩
                obtain ⟨m3, hm3⟩ : ∃ m, ms'.length = m := ⟨_, rfl⟩
                rw [hm1, hm2, hm3] at hv'
                subst hv'
                have hnv := hts.len
                subst hnv
                obtain ⟨hrun, hfewo⟩ := Q.out.1.run.next K.out.2.2.1 Q.out.2.2.2.2.1 Q.out.2.2.2.1 hgq T.out.2.2.2.2.2 HI.out.1 HI.out.2 (A := Av) (cv := cv) hdo
                rw [← hrs] at hrun
                obtain ⟨ee, hee⟩ : ∃ ee : Ev, (⟨q, (⟨q.client, q.num, code, Av, cv, out⟩ : Rp), 2 * (k : Int), 2 * (k : Int) + 1⟩ : Ev) = ee := ⟨_, rfl⟩
                rw [hee] at hrun
                have hrok : (⟨q.client, q.num, code, Av, cv, out⟩ : Rp).ok := ⟨Q.out.2.2.1.c, Q.out.2.2.1.n, hts.small, fun t ht => by have := hfewo.2 t ht; omega⟩
                have heok : ee.ok := by
                  rw [← hee]
                  refine ⟨Q.out.2.2.1, hrok, ?_, ?_⟩
                  · simp [Lit.wf, IntKind.min, IntKind.max, IntKind.signed, IntKind.bits]; omega
                  · simp [Lit.wf, IntKind.min, IntKind.max, IntKind.signed, IntKind.bits]; omega
                have hbe : ∀ w, (bdRow 51 #[(0, .agg q.arr), (1, .agg #[.int .i64 q.client, .int .i64 q.num, .int .i64 code, .slice Av out.length cv]), (2, .int .i64 (2 * (k : Int))), (3, .int .i64 (2 * (k : Int) + 1))]).run Tryd.prog w = .ok (.agg ee.arr) w := fun w => by rw [← hee]; exact build_ev Q.out.2.2.1 (⟨q.client, q.num, code, Av, cv, out⟩ : Rp) _ _ w
                have hbsE := fun w => bs_M1E heok w
                have hX10 : w3.heap.size < wo.heap.size := Nat.lt_of_lt_of_le K.out.2.2.2.2.1 Q.out.1.m.size
                have hlo9 : wo.heap.size < w9.heap.size := Nat.lt_of_lt_of_le Q.out.2.2.2.2.2.2.2.1 T.out.1.size
                have hl11 := hb11.size
                have hl10 := T.out.2.2.2.1
                have hb611 := T.out.2.2.2.2.1.trans (hb11.mono T.out.2.2.2.2.1.size)
                have hbx11 : ∃ cs : Array Value, w11.heap[w3.heap.size]? = some (.cells cs 28 (0, 0)) ∧ cs.size = 4 := ⟨_, (hb611.block _ (by have := Q.out.2.2.2.2.2.2.2.1; omega)).trans ((Q.out.2.2.2.2.2.1.block _ hX10).trans Q.out.1.box), rfl⟩
                obtain ⟨px, -, Bxx⟩ := Bx.put (w := w11) (g := w3.heap.size) (n := 4) (t := 28) hbx11 (cs := #[.slice B1 m1 d1, .slice B2 m2 d2, .int .i64 ep', .slice B3 m3 d3]) rfl (st_ones _ _ _ _ _ _ _ _ _ _)
                obtain ⟨cs0, hbx11, -⟩ := hbx11
                have hgg : (w11.setRow w3.heap.size #[.slice B1 m1 d1, .slice B2 m2 d2, .int .i64 ep', .slice B3 m3 d3]).heap[w9.heap.size]? = some (.cells #[.int .i64 0, .int .i64 0, .int .i64 0, .slice none 0 0] 49 (0, 0)) := (setRow_other _ _ _ _ (by omega)).trans ((hb11.block _ hl10).trans T.out.2.2.1)
                obtain ⟨pg, pg2, Bgg⟩ := Bx.put (g := w9.heap.size) (n := 4) (t := 49) ⟨_, hgg, rfl⟩ (cs := #[.int .i64 q.client, .int .i64 q.num, .int .i64 code, .slice Av out.length cv]) rfl (rp_ones4 _ _ _ _ _ _)
                obtain ⟨w13, hw13⟩ : ∃ x, (w11.setRow w3.heap.size #[.slice B1 m1 d1, .slice B2 m2 d2, .int .i64 ep', .slice B3 m3 d3]).setRow w9.heap.size #[.int .i64 q.client, .int .i64 q.num, .int .i64 code, .slice Av out.length cv] = x := ⟨_, rfl⟩
                rw [hw13] at pg pg2
                have mv13 : Mv (fun b => b = w3.heap.size ∨ b = w9.heap.size) w11 w13 := by rw [← hw13]; exact (Mv.setRow (fp := fun b => b = w3.heap.size ∨ b = w9.heap.size) _ _ _ (.inl rfl)).trans (Mv.setRow (fp := fun b => b = w3.heap.size ∨ b = w9.heap.size) _ _ _ (.inr rfl)) (fun _ _ c => c)
                have hbx13 : w13.heap[w3.heap.size]? = some (.cells #[.slice B1 m1 d1, .slice B2 m2 d2, .int .i64 ep', .slice B3 m3 d3] 28 (0, 0)) := by rw [← hw13]; exact (setRow_other _ _ _ _ (by omega)).trans (setRow_heap w11 _ _ _ 28 (0, 0) hbx11)
                have hl13 := mv13.size
                have hl6 := Q.out.2.2.2.2.2.2.2.1
                have hsz6 := hb611.size
                have hq13 : rowAt w13 wo.heap.size 0 42 = some q.arr := by
                  unfold rowAt
                  rw [mv13.block _ (by omega) (fun c => by rcases c with c | c <;> omega), hb611.block _ hl6, Q.out.2.2.2.2.2.2.1]
                  exact Rq.cutAll (Rq.size Q.out.2.2.1)
                have hown := Q.out.1.own
                have hown13 : w13.ownsRow w5.heap.size 51 48 (.slice A5 k c5) k (flatC Ev.cells es) := own_mv (own_mv (fp := fun _ => False) hown (Mv.of_below (Q.out.2.2.2.2.2.1.trans (hb611.mono Q.out.2.2.2.2.2.1.size))) (fun _ _ c => c)) mv13 (fun g hg c => by have := (own_lt hown hg).1; have := (own_lt hown hg).2; have := K.out.2.2.2.2.1; rcases c with c | c <;> omega)
                have hk6 : (k : Int) ≤ 6 := by omega
                have hz5 := Q.out.1.m.size
                obtain ⟨v14, w14, hrun14, hown14, hmv14, hob14⟩ := pushE 30 hown13 heok (by omega) (by omega)
                obtain ⟨A14, c14, rfl, -, -⟩ := own_shape hown14
                have hRW : RunW w w5 w3.heap.size ⟨ps, rs.map Rp.d, ep, ms⟩ rs qs (k + 1) A14 c14 B1 m1 d1 B2 m2 d2 ep' B3 m3 d3 ps' rs' ms' (es ++ [ee]) w14 := by
                  have hlo : ∀ g, (Value.slice A5 k c5).ownBlock = some g → w5.heap.size ≤ g ∧ g < wo.heap.size := fun g hg => own_lt hown hg
                  have hK14 : ∀ w'', Mv (fun b => b = w3.heap.size ∨ (Value.slice A14 (k + 1) c14).ownBlock = some b) w14 w'' → Mv (fun b => b = w3.heap.size ∨ b = w9.heap.size ∨ (Value.slice A5 k c5).ownBlock = some b) w11 w'' := fun w'' m => by
                    have m1 : Mv (fun b => b = w3.heap.size ∨ b = w9.heap.size ∨ (Value.slice A5 k c5).ownBlock = some b) w11 w14 := (mv13.mono (fun i _ c => c.elim .inl (fun c => .inr (.inl c)))).trans hmv14 (fun i _ c => .inr (.inr c))
                    refine m1.trans m (fun i hi c => ?_)
                    rcases c with c | c
                    · exact .inl c
                    · rcases hob14 with h | h
                      · rw [h] at c; exact .inr (.inr c)
                      · rw [h] at c; cases c; omega
                  have hb1011 := Q.out.2.2.2.2.2.1.trans (hb611.mono Q.out.2.2.2.2.2.1.size)
                  have hKo : ∀ w'', Mv (fun b => b = w3.heap.size ∨ (Value.slice A14 (k + 1) c14).ownBlock = some b) w14 w'' → Mv (fun b => b = w3.heap.size ∨ (Value.slice A5 k c5).ownBlock = some b) wo w'' := fun w'' m =>
                    (Mv.of_below hb1011).trans (hK14 w'' m) (fun i hi c => by rcases c with c | c | c; exact .inl c; omega; exact .inr c)
                  have hm14 : Mv (fun b => b = w3.heap.size) w5 w14 := Q.out.1.m.trans ((Mv.of_below (fp := fun b => b = w3.heap.size ∨ (Value.slice A5 k c5).ownBlock = some b) hb1011).trans (hK14 w14 (Mv.refl _ _)) (fun i hi c => by rcases c with c | c | c; exact .inl c; omega; exact .inr c)) (fun i hi c => by rcases c with c | c; exact c; have := (hlo i c).1; omega)
                  refine ⟨Q.out.1.b.trans (((hKo w14 (Mv.refl _ _)).below Q.out.1.b.size (fun i hi => by rcases hi with c | c; have := K.out.2.2.2.2.2; omega; have := (hlo i c).1; have := K.out.2.2.2.2.1; have := K.out.2.2.2.2.2; omega))), hm14, ?_, fun w'' m => ?_, hown14, fun e' he' => ?_, hrun, ?_⟩
                  · rw [hmv14.block _ (by omega) (fun c => by have := (hlo _ c).1; have := K.out.2.2.2.2.1; omega)]; exact hbx13
                  · exact (hK w'' ((hK14 w'' m).mono (fun i hi c => by rcases c with c | c | c; exact ⟨.inl (.inl c), by omega⟩; exact ⟨.inr (by omega), by omega⟩; exact ⟨.inl (.inr c), by have := (hlo i c).2; omega⟩))).1
                  · rcases List.mem_append.1 he' with he' | he'
                    · exact ⟨(Q.out.1.ev e' he').1, fun w'' m => (Q.out.1.ev e' he').2 w'' (hKo w'' m)⟩
                    · rw [List.mem_singleton.1 he']
                      refine ⟨heok, fun w'' m => ?_⟩
                      rw [← hee]
                      exact ⟨(hK w'' ((hK14 w'' m).mono (fun i hi c => by rcases c with c | c | c; exact ⟨.inl (.inl c), by omega⟩; exact ⟨.inr (by omega), by omega⟩; exact ⟨.inl (.inr c), by have := (hlo i c).2; omega⟩))).2, hso, hfewo⟩
                  · rw [hrs]; have := withR_len (rs := rk) (a := (⟨q.client, q.num, code, Av, cv, out⟩ : Rp)); have := Q.out.1.len; omega
                have HR := Lib.hid hRW
                clear hRW hown14 hmv14 hob14 hown13 hown hbx13 mv13 hbx11 hb611 hb11 hK hst hts hso hdo hrs hrun hfewo hee hrok heok hgg Bxx Bgg hm1 hm2 hm3 hX10 hlo9 hl11 hl10 hl13 hl6 hsz6 hz5 HI
                go_wp2_with fail
                go_roundw
                case rel => exact ⟨k + 1, by omega, by go_num, A14, c14, rfl, _, _, _, _, _, _, _, _, _, _, _, _, _, _, HR.out⟩
                case measure => simp [intOf]; omega
      · have hkn : n = k := by omega
        subst hkn
        have hs0 : rowAt wo w.heap.size 0 4 = some #[.slice Ap np cp, .slice Ar nr cr, .int .i64 ep, .slice Am nm cm] := by
          have hx := K.out.2.2.2.2.1
          have hy := K.out.2.2.2.2.2
          unfold rowAt
          rw [RW.m.block _ (by omega) (by omega)]
          exact r5
        have hqf : ∀ q ∈ qs, q.few := fun q hq => by
          have := HB3.out.2.q q (List.mem_append_left _ hq)
          exact ⟨E.out.2.2.1.ok q hq, this.k, this.v, this.o⟩
        have hev : ∀ m ∈ es, EvS wo m := fun m hm => by
          obtain ⟨i, hi, rfl⟩ := List.mem_iff_getElem.1 hm
          refine ⟨(RW.ev _ hm).2 wo (Mv.refl _ _), ?_⟩
          have hin : i < n := by rw [← RW.run.len]; exact hi
          have h1 := (RW.run.ev i hin).1
          rw [List.getD_eq_getElem?_getD, List.getElem?_eq_getElem hi] at h1
          have h2 : (es[i]).q = qs.getD i default := h1
          rw [h2]
          exact hqf _ (in_getD (by rw [E.out.2.2.1.len]; exact hin))
        obtain ⟨A9, c9, hv9, hES⟩ := ES_of_own RW.own (fun e he => (RW.ev e he).1) (by omega)
        cases hv9
        obtain ⟨_, _, hv9, hSO, -⟩ := own_shape RW.own
        cases hv9
        have hlin := RW.run.linear n 0 (by omega)
        have hrunl : RunS ⟨ps, rs.map Rp.d, ep, ms⟩ rs qs qs.length psk rk ek msk es := by rw [E.out.2.2.1.len]; exact RW.run
        have hchk := hrunl.check
        have hln := linear_any (.agg #[.slice Ap np cp, .slice Ar nr cr, .int .i64 ep, .slice Am nm cm]) ps rs ep ms A5 n c5 es wo (E.out.1.below RW.b) K.out.2.1 (E.out.2.2.2.2.2.1.below RW.b) hES hSO hev (by omega)
        have hln2 : searchP n ⟨ps, rs.map Rp.d, ep, ms⟩ es = true := hlin
        rw [hln2] at hln
        have L := Lib.hid (And.intro RW.b (And.intro hES (And.intro hev (And.intro hqf hchk))))
        clear hlin hrunl hchk hln2 hES hev hqf hSO RW
        go_wp2_with fail
        refine hln.mono ?_
        rintro e w7 ⟨rfl, hb7⟩
        have hlo : w.heap.size < wo.heap.size := lt_of_rowAt hs0
        have hs7 := (rowAt_below hb7 hlo 0 4).trans hs0
        have hB7 := L.out.1.trans (hb7.mono L.out.1.size)
        have hck := check_any (.agg #[.slice Ap np cp, .slice Ar nr cr, .int .i64 ep, .slice Am nm cm]) ps rs ep ms (A) n cap qs A5 n c5 es w7 (E.out.1.below hB7) K.out.2.1 (E.out.2.2.2.2.2.1.below hB7) (E.out.2.2.1.below hB7) L.out.2.2.2.1 (L.out.2.1.below hb7) (fun m hm => (L.out.2.2.1 m hm).below hb7) (by omega) (by omega)
        rw [L.out.2.2.2.2] at hck
        have M := Lib.hid hB7
        clear hln hb7 hB7 hs0 hlo
        go_wp2_with fail
        refine hck.mono ?_
        rintro e w8 ⟨rfl, hb8⟩
        have M8 := Lib.hid (M.out.trans (hb8.mono M.out.size))
        clear hck hb8 hs7
        go_wp2_with fail
        go_ret
        exact ⟨rfl, M8.out⟩
end Go.Proofs.YtfnfgnhbnffagaaDoor
