/-
What the document tells of the registry.
-/
import Derived.Test.YthaeofiplhbggaaDoorFo
import Derived.Lib.Hide
namespace Go.Proofs.YthaeofiplhbggaaDoor
open Go.RowKit
set_option linter.unusedVariables false
set_option linter.unusedSimpArgs false
set_option maxRecDepth 100000
theorem infoQ : (Tryd.prog.info? 39).map (fun i => (i.zero, i.size)) = some (some (.agg (default : Rq).arr), 42) := by kernel_rfl
@[go_sem ↓] theorem bs_Q (n : Nat) (ps : Array (Nat × Value)) : Instr.buildSlice 62 n ps = bsRow 62 n ps := rfl
theorem bs_Q2 {x y : Rq} (hx : x.ok) (hy : y.ok) (w : World) : (bsRow 62 2 #[(0, .agg x.arr), (1, .agg y.arr)]).run Tryd.prog w = .ok (.slice (some ⟨w.heap.size, 0, none⟩) 2 2) (w.alloc (.cells (x.cells ++ y.cells).toArray 39)) := by
  have h0 := infoQ
  cases hq : Tryd.prog.info? 39 with
  | none => rw [hq] at h0; cases h0
  | some i0 =>
    rw [hq] at h0
    simp only [Option.map_some, Option.some.injEq, Prod.mk.injEq] at h0
    have := bs_row Tryd.underlying62 hq h0.1 h0.2 (by have := Rq.zero_sz; unfold SizeIs at this; exact this) (by decide) w [.agg x.arr, .agg y.arr]
      (by intro v hv; simp only [List.mem_cons, List.not_mem_nil, or_false] at hv; rcases hv with rfl | rfl; exact Rq.size hx; exact Rq.size hy) (by simp)
    simpa [Value.cells, Rq.arr] using this
theorem MS.slok {w : World} {A : Option Addr} {n : Nat} {ms : List Mb} (h : MS w A n ms) (hn : 0 < n) : SlOk A n := by
  obtain ⟨b, off, rfl, -⟩ := h.mem hn
  exact ⟨fun h => (by cases h), fun _ a h => by cases h; rfl⟩
/-- the two requests of the document -/
def qa : Rq := ⟨1, 1, ⟨2, ⟨#[97]⟩, ⟨#[49]⟩, ByteArray.empty, Chg.zero⟩⟩
def qb : Rq := ⟨2, 1, ⟨4, ⟨#[97]⟩, ⟨#[50]⟩, ⟨#[48]⟩, Chg.zero⟩⟩
theorem qa_ok : qa.ok := ⟨by decide, by decide, ⟨by decide, by decide, by decide, by decide, Chg.zero_ok⟩⟩
theorem qb_ok : qb.ok := ⟨by decide, by decide, ⟨by decide, by decide, by decide, by decide, Chg.zero_ok⟩⟩
@[go_sem] theorem bs_Qab (w : World) : (bsRow 62 2 #[(0, .agg (Rq.arr ⟨1, 1, ⟨2, ⟨#[97]⟩, ⟨#[49]⟩, ByteArray.empty, Chg.zero⟩⟩)), (1, .agg (Rq.arr ⟨2, 1, ⟨4, ⟨#[97]⟩, ⟨#[50]⟩, ⟨#[48]⟩, Chg.zero⟩⟩))]).run Tryd.prog w = .ok (.slice (some ⟨w.heap.size, 0, none⟩) 2 2) (w.alloc (.cells (qa.cells ++ qb.cells).toArray 39)) := bs_Q2 qa_ok qb_ok w
theorem rows_ab (w : World) : rowAt (w.alloc (.cells (qa.cells ++ qb.cells).toArray 39)) w.heap.size 0 42 = some qa.arr ∧ rowAt (w.alloc (.cells (qa.cells ++ qb.cells).toArray 39)) w.heap.size 42 42 = some qb.arr := by
  have e : ∀ o, rowAt (w.alloc (.cells (qa.cells ++ qb.cells).toArray 39)) w.heap.size o 42 = cut (qa.cells ++ qb.cells).toArray o 42 := fun o => rowAt_alloc_at _ _ _ _ _ _ rfl
  rw [e, e]
  exact ⟨by kernel_rfl, by kernel_rfl⟩
theorem good_a : rqGood qa = true := by kernel_rfl
theorem good_b : rqGood qb = true := by kernel_rfl
def pa : Pr := ⟨⟨#[97]⟩, ⟨#[49]⟩⟩
def qk (k : Nat) : Rq := if k = 0 then qa else qb
def psK (k : Nat) : List Pr := if k = 0 then [] else [pa]
def cK (k : Nat) : Int := if k = 0 then 0 else 9
def dOk (k : Nat) (rs : List Rp) : Prop := (k = 0 → rs = []) ∧ (k = 1 → rs.map Rp.d = [(1, 1, 0, [])])
theorem pa_I : pairI [pa] ⟨#[97]⟩ = 0 := by
  unfold pairI
  rw [show ([pa] : List Pr).length = 1 from rfl, halve_ge (by decide) (by unfold aheadP; rw [ByteArray.toList_eq, ByteArray.toList_eq]; rfl)]
  exact halve_end _ 0
theorem pa_B : pairB [pa] ⟨#[97]⟩ = true := by
  unfold pairB
  rw [pa_I]
  unfold cmpS
  rw [ByteArray.toList_eq, ByteArray.toList_eq]
  rfl
theorem last_1 {rs : List Rp} (h : rs.map Rp.d = [(1, 1, 0, [])]) : lastB rs 2 = false ∧ rs.length = 1 ∧ lastI rs 2 = 1 := by
  have hl : rs.length = 1 := by have := congrArg List.length h; simpa using this
  obtain ⟨x, rfl⟩ : ∃ x, rs = [x] := List.length_eq_one_iff.1 hl
  have hx : x.client = 1 := by
    have := List.head_eq_of_cons_eq h
    exact congrArg Prod.fst this
  have hi : lastI [x] 2 = 1 := by
    unfold lastI
    rw [show ([x] : List Rp).length = 1 from rfl, halve_lt (by decide) (by unfold aheadR; show decide (wrap64 (x.client - 2) < 0) = true; rw [hx]; unfold wrap64; decide)]
    exact halve_end _ 1
  exact ⟨by unfold lastB; rw [hi]; simp, rfl, hi⟩
/-- the two requests, executed -/
theorem ap_k (k : Nat) (hk : k < 2) (v : Value) (rs : List Rp) (w : World) (h : StS w v (psK k) rs 0 four) (hd : dOk k rs) :
    Calls Tryd.prog 8 #[v, .agg (qk k).arr] w fun e w' => ∃ v' vals out rs', e = .returned (.tuple #[v', .agg #[.int .i64 (qk k).client, .int .i64 (qk k).num, .int .i64 (cK k), vals]]) ∧ OwnV w.heap.size w' v' (psK (k + 1)) rs' 0 four ∧ dOk (k + 1) rs' ∧ OT w' w.heap.size vals out ∧ out.length ≤ 1 ∧ (∀ s ∈ out, s.size ≤ 1) ∧ Below w.heap.size w w' := by
  by_cases h0 : k = 0
  · subst h0
    obtain rfl := hd.1 rfl
    refine (apply_new v [] [] 0 four qa w h qa_ok good_a (by unfold lastB lastI; rw [List.length_nil]; simp) (by decide) (by decide) (by decide) (fun code out ps' ep' ms' => out = [] ∧ ep' = 0 ∧ ms' = four ∧ code = 0 ∧ ps' = [pa]) (fun B O vp vr vm rs' w1 hb hB => (does_put B O vp vr vm [] rs' 0 four qa.op w1 hb hB (by decide) qa_ok.op rfl).mono fun e w' hE => ?_) ?_).mono ?_
    · obtain ⟨code, vals, out, vp', vm', ps', ep', ms', e1, e2, e3, e4, e5, e6, e7, e8, e9⟩ := hE
      refine ⟨code, vals, out, vp', vm', ps', ep', ms', e1, e2, e3, e4, e5, e6, e7, e8, ?_⟩
      rcases e9 with ⟨g1, g2, -⟩ | ⟨-, -, -, g⟩
      · exact ⟨g1, by rw [g2]; unfold putP pairB pairI; rw [List.length_nil, halve_end]; rfl⟩
      · simp at g
    · rintro code out ps' ep' ms' ⟨rfl, rfl, rfl, rfl, rfl⟩
      exact ⟨by simp, by decide, by decide⟩
    · rintro e w' ⟨v', vals, code, out, ps', rs', ep', ms', rfl, g1, g2, g3, ⟨rfl, rfl, rfl, rfl, rfl⟩, g4, g5⟩
      exact ⟨v', vals, [], rs', rfl, g1, ⟨fun h => by omega, fun _ => by rw [g4]; unfold lastI; rw [List.length_nil, halve_end]; rfl⟩, g2, by decide, by simp, g5⟩
  · obtain rfl : k = 1 := by omega
    obtain ⟨l1, l2, l3⟩ := last_1 (hd.2 rfl)
    refine (apply_new v [pa] rs 0 four qb w h qb_ok good_b l1 (by decide) (by decide) (by omega) (fun code out ps' ep' ms' => code = 9 ∧ out = [⟨#[49]⟩] ∧ ps' = [pa] ∧ ep' = 0 ∧ ms' = four) (fun B O vp vr vm rs' w1 hb hB => (does_other B O vp vr vm [pa] rs' 0 four qb.op w1 hb hB (by decide) qb_ok.op rfl pa_B ?_).mono fun e w' hE => ?_) ?_).mono ?_
    · show ((([pa] : List Pr).getD (pairI [pa] ⟨#[97]⟩) default).val.toList == _) = false
      rw [pa_I, ByteArray.toList_eq, ByteArray.toList_eq]; rfl
    · obtain ⟨code, vals, out, vp', vm', ps', ep', ms', e1, e2, e3, e4, e5, e6, e7, e8⟩ := hE
      refine ⟨code, vals, out, vp', vm', ps', ep', ms', e1, e2, e3, e4, e5, e6, ?_, e8⟩
      rw [e7]
      show [(([pa] : List Pr).getD (pairI [pa] ⟨#[97]⟩) default).val] = _
      rw [pa_I]; rfl
    · rintro code out ps' ep' ms' ⟨rfl, rfl, rfl, rfl, rfl⟩
      exact ⟨by intro s hs; rw [List.mem_singleton] at hs; rw [hs]; decide, by decide, by decide⟩
    · rintro e w' ⟨v', vals, code, out, ps', rs', ep', ms', rfl, g1, g2, g3, ⟨rfl, rfl, rfl, rfl, rfl⟩, g4, g5⟩
      exact ⟨v', vals, _, rs', rfl, g1, ⟨fun h => by omega, fun h => by omega⟩, g2, by decide, by intro s hs; rw [List.mem_singleton] at hs; rw [hs]; decide, g5⟩
theorem qk_row {w : World} {lb k : Nat} (hk : k < 2) (h0 : rowAt w lb 0 42 = some qa.arr) (h1 : rowAt w lb 42 42 = some qb.arr) : rowAt w lb (k * 42) 42 = some (qk k).arr := by
  by_cases h : k = 0
  · subst h; exact h0
  · obtain rfl : k = 1 := by omega
    exact h1
theorem qk_ok (k : Nat) : (qk k).ok := by unfold qk; split; exact qa_ok; exact qb_ok
/-- what All answers -/
def AllEnd (w : World) (e : Ending) (w' : World) : Prop :=
  ∃ v' lv rs' L, e = .returned (.tuple #[v', lv]) ∧ StS w' v' [pa] rs' 0 four ∧ w'.ownsRow w.heap.size 43 4 lv 2 (flatC Rp.cells L) ∧ L.length = 2 ∧ OkAllR L ∧ (∀ i, i < 2 → (L.getD i default).code = cK i) ∧ Below w.heap.size w w'
set_option maxHeartbeats 1000000 in
theorem all_ab (v : Value) (lb : Nat) (w : World) (h : StS w v [] [] 0 four) (h0 : rowAt w lb 0 42 = some qa.arr) (h1 : rowAt w lb 42 42 = some qb.arr) (hl : lb < w.heap.size) :
    Calls Tryd.prog 9 #[v, .slice (some ⟨lb, 0, none⟩) 2 2] w (AllEnd w) := by
  obtain ⟨Ap, cp, Ar, cr, Am, cm, rfl, -⟩ := h.ex
  have H0 := Lib.hid (show StS w (.agg #[.slice Ap 0 cp, .slice Ar 0 cr, .int .i64 0, .slice Am 4 cm]) [] [] 0 four from h)
  show Calls Tryd.prog 9 #[.agg #[.slice Ap 0 cp, .slice Ar 0 cr, .int .i64 0, .slice Am 4 cm], .slice (some ⟨lb, 0, none⟩) 2 2] w (AllEnd w)
  clear h
  have hB : Below w.heap.size w ((w.alloc (.cells #[.slice Ap 0 cp, .slice Ar 0 cr, .int .i64 0, .slice Am 4 cm] 28)).alloc (.cells #[.slice none 0 0, .slice none 0 0, .int .i64 0, .slice none 0 0] 28)) := ((Below.refl _ _).alloc (Nat.le_refl _) _).alloc (by simp) _
  have hZ : Bx ((w.alloc (.cells #[.slice Ap 0 cp, .slice Ar 0 cr, .int .i64 0, .slice Am 4 cm] 28)).alloc (.cells #[.slice none 0 0, .slice none 0 0, .int .i64 0, .slice none 0 0] 28)) (w.heap.size + 1) 4 28 := by
    have := Bx.made (w.alloc (.cells #[.slice Ap 0 cp, .slice Ar 0 cr, .int .i64 0, .slice Am 4 cm] 28)) #[.slice none 0 0, .slice none 0 0, .int .i64 0, .slice none 0 0] 28 4 rfl
    simpa using this
  have HQ := Lib.hid (And.intro h0 (And.intro h1 hl))
  clear h0 h1
  go_enter Tryd.func9, Tryd.ntmps9
  go_wp2_with fail
  refine (copied_any _ [] [] 0 four _ (H0.out.below hB) (by decide) (by decide) (by decide)).mono ?_
  rintro e w1 ⟨vp, vr, vm, R, O', rfl, OW1, hRd, hb1⟩
  obtain rfl : R = [] := by simpa using hRd
  have St1 : OwnV (w.heap.size + 2) w1 (.agg #[vp, vr, .int .i64 0, vm]) [] [] 0 four := ⟨_, _, _, _, rfl, OW1.base (by simp), by decide, by decide, by decide⟩
  obtain ⟨Aq, cq, rfl, -, -⟩ := own_shape OW1.p
  obtain ⟨Ax, cx, rfl, -, -⟩ := own_shape OW1.r
  obtain ⟨Ac, cc, rfl, -, -⟩ := own_shape OW1.m
  replace St1 : OwnV (w.heap.size + 2) w1 (.agg #[.slice Aq 0 cq, .slice Ax 0 cx, .int .i64 0, .slice Ac 4 cc]) [] [] 0 four := St1
  have hZ1 := hZ.below hb1
  have hB1 := hB.trans (hb1.mono hB.size)
  have b2 : Below w1.heap.size w1 (w1.alloc (.cells #[.slice Aq 0 cq, .slice Ax 0 cx, .int .i64 0, .slice Ac 4 cc] 28)) := (Below.refl _ _).alloc (Nat.le_refl _) _
  have E1 := Lib.hid (And.intro (St1.mv (Mv.of_below (fp := fun _ => False) b2) (fun _ c => c.elim)) (And.intro (hZ1.below b2) (And.intro (hB1.trans (b2.mono hB1.size)) (heap_alloc_new w1 (.cells #[.slice Aq 0 cq, .slice Ax 0 cx, .int .i64 0, .slice Ac 4 cc] 28)))))
  have lz := hZ1.lt
  simp only [List.length_nil, show four.length = 4 from rfl]
  clear hB hZ hb1 OW1 hRd St1 hZ1 hB1 b2
  go_wp2_with fail
  go_loopw [7, 15] (fun t7 t15 wr => ∃ k : Nat, k ≤ 2 ∧ t15 = .int .i64 k ∧ ∃ A1 n1 c1 A2 n2 c2 A3 n3 c3 rs L Al cl, wr.heap[w1.heap.size]? = some (.cells #[.slice A1 n1 c1, .slice A2 n2 c2, .int .i64 0, .slice A3 n3 c3] 28 (0, 0)) ∧ OwnV (w.heap.size + 2) wr (.agg #[.slice A1 n1 c1, .slice A2 n2 c2, .int .i64 0, .slice A3 n3 c3]) (psK k) rs 0 four ∧ dOk k rs ∧
    t7 = .slice Al k cl ∧ wr.ownsRow (w1.heap.size + 1) 43 4 (.slice Al k cl) k (flatC Rp.cells L) ∧ L.length = k ∧ OkAllR L ∧ (∀ i, i < k → (L.getD i default).code = cK i) ∧ Bx wr (w.heap.size + 1) 4 28 ∧ Below w.heap.size w wr) (fun _ t _ => 2 - (intOf t).toNat)
  case atStart => exact ⟨0, by omega, rfl, _, _, _, _, _, _, _, _, _, [], [], none, 0, E1.out.2.2.2, E1.out.1, ⟨fun _ => rfl, fun h => by omega⟩, rfl, World.ownsRow_nil _ _ _ _, rfl, (by intro x hx; cases hx), fun i hi => by omega, E1.out.2.1, E1.out.2.2.1⟩
  case round =>
    clear E1
    obtain ⟨k, hk, rfl, A1, n1, c1, A2, n2, c2, A3, n3, c3, rs, L, Al, cl, hO, hS, hd, rfl, hL, hLl, hLo, hLc, hZ, hb⟩ := hrel
    have hk0 : (0 : Int) ≤ k := by omega
    by_cases hlt : k < 2
    · have hk1 : (k : Int) < 2 := by omega
      have hrow := (rowAt_below hb HQ.out.2.2 (k * 42) 42).trans (qk_row hlt HQ.out.1 HQ.out.2.1)
      have q1 := Rq.sz (qk_ok k)
      have q2 := Rq.ones (qk k)
      have q3 := Rq.cutAll (Rq.size (qk_ok k))
      have q4 := Rq.zero_sz
      have hl1 : w1.heap.size < wr.heap.size := (Array.getElem?_eq_some_iff.1 hO).1
      have r1 : rowAt wr w1.heap.size 0 4 = some #[.slice A1 n1 c1, .slice A2 n2 c2, .int .i64 0, .slice A3 n3 c3] := by unfold rowAt; rw [hO]; exact cut_all _ _ rfl
      have E := Lib.hid (And.intro hO (And.intro hS (And.intro hd (And.intro hL (And.intro hLl (And.intro hLo (And.intro hLc (And.intro hZ hb))))))))
      clear hO hS hd hL hLl hLo hLc hZ hb
      have b5 : Below wr.heap.size wr ((wr.alloc (.cells (qk k).arr 39)).alloc (.cells #[.int .i64 0, .int .i64 0, .int .i64 0, .slice none 0 0] 43)) := ((Below.refl _ _).alloc (Nat.le_refl _) _).alloc (by simp) _
      have hY : Bx ((wr.alloc (.cells (qk k).arr 39)).alloc (.cells #[.int .i64 0, .int .i64 0, .int .i64 0, .slice none 0 0] 43)) (wr.heap.size + 1) 4 43 := by
        have := Bx.made (wr.alloc (.cells (qk k).arr 39)) #[.int .i64 0, .int .i64 0, .int .i64 0, .slice none 0 0] 43 4 rfl
        simpa using this
      have hap := ap_k k hlt _ rs _ (E.out.2.1.sts.below b5) E.out.2.2.1
      have EB := Lib.hid (And.intro b5 hY)
      clear b5 hY
      go_wp2_with fail
      refine hap.mono ?_
      rintro e w6 ⟨v6, vals, out, rs6, rfl, S6, d6, OT6, ol6, os6, hb6⟩
      obtain ⟨b5, hY⟩ := EB.out
      obtain ⟨hO, hS, hd, hL, hLl, hLo, hLc, hZ, hb⟩ := E.out
      obtain ⟨B1, g1, B2, g2, B3, g3, rfl, -⟩ := S6.sts.ex
      obtain ⟨Bv, gv, rfl⟩ := ot_shape OT6 rfl
      have b56 := b5.trans (hb6.mono b5.size)
      have hY6 := hY.below hb6
      have hO6 : Bx w6 w1.heap.size 4 28 := Bx.below ⟨_, hO, rfl⟩ b56
      obtain ⟨x, hx⟩ : ∃ x, x = Rp.mk (qk k).client (qk k).num (cK k) Bv gv out := ⟨_, rfl⟩
      have hxo : x.ok := by rw [hx]; exact ⟨(qk_ok k).c, (qk_ok k).n, by show out.length ≤ _; omega, fun s hs => by have := os6 s hs; omega⟩
      have hxa : x.arr = #[.int .i64 (qk k).client, .int .i64 (qk k).num, .int .i64 (cK k), .slice Bv out.length gv] := by rw [hx]; rfl
      have hxc : x.code = cK k := by rw [hx]
      generalize out.length = no at *
      generalize (psK (k + 1)).length = np at *
      generalize rs6.length = nr at *
      replace S6 : OwnV _ w6 (.agg #[.slice B1 np g1, .slice B2 nr g2, .int .i64 0, .slice B3 4 g3]) (psK (k + 1)) rs6 0 four := S6
      obtain ⟨p1, -, z1⟩ := hO6.put (cs := #[.slice B1 np g1, .slice B2 nr g2, .int .i64 0, .slice B3 4 g3]) rfl (st_ones _ _ _ _ _ _ _ _ _ _)
      have hY7 := hY6.of_block (w' := w6.setRow w1.heap.size #[.slice B1 np g1, .slice B2 nr g2, .int .i64 0, .slice B3 4 g3]) (setRow_other _ _ _ _ (by omega))
      obtain ⟨p2, r2, -⟩ := hY7.put (cs := #[.int .i64 (qk k).client, .int .i64 (qk k).num, .int .i64 (cK k), .slice Bv no gv]) rfl (rp_ones4 _ _ _ _ _ _)
      obtain ⟨w7, hw7⟩ : ∃ w7, (w6.setRow w1.heap.size #[.slice B1 np g1, .slice B2 nr g2, .int .i64 0, .slice B3 4 g3]).setRow (wr.heap.size + 1) #[.int .i64 (qk k).client, .int .i64 (qk k).num, .int .i64 (cK k), .slice Bv no gv] = w7 := ⟨_, rfl⟩
      have m7 : Mv (fun i => i = w1.heap.size ∨ i = wr.heap.size + 1) w6 w7 := by
        rw [← hw7]
        exact (Mv.setRow (fp := fun i => i = w1.heap.size ∨ i = wr.heap.size + 1) _ _ _ (.inl rfl)).trans (Mv.setRow (fp := fun i => i = w1.heap.size ∨ i = wr.heap.size + 1) _ _ _ (.inr rfl)) (fun _ _ c => c)
      have b6 : wr.heap.size + 2 ≤ w6.heap.size := by have := hb6.size; simpa using this
      have V7 := S6.mv m7 (fun i hi => by simp; rcases hi with rfl | rfl <;> omega)
      have O7 : w7.heap[w1.heap.size]? = some (.cells #[.slice B1 np g1, .slice B2 nr g2, .int .i64 0, .slice B3 4 g3] 28 (0, 0)) := by
        rw [← hw7, setRow_other _ _ _ _ (by omega)]
        obtain ⟨c, hc, -⟩ := hO6
        exact setRow_heap w6 _ c _ 28 (0, 0) hc
      have L7 : w7.ownsRow (w1.heap.size + 1) 43 4 (.slice Al k cl) L.length (flatC Rp.cells L) := by
        rw [hLl]
        refine own_mv (own_mv hL (Mv.of_below (fp := fun _ => False) b56) (fun _ _ c => c)) m7 (fun g hg c => ?_)
        have := own_lt hL hg
        rcases c with c | c <;> omega
      have Z7 := (hZ.below b56).of_block (m7.block _ (by have := (hZ.below b56).lt; exact this) (fun c => by have := hZ.lt; rcases c with c | c <;> omega))
      have B7 : Below w.heap.size w w7 := (hb.trans (b56.mono hb.size)).trans (m7.below (by have := hb.size; omega) (fun i hi => by have := hb.size; rcases hi with rfl | rfl <;> omega))
      have z7 : w7.heap.size = w6.heap.size := by rw [← hw7]; simp
      rw [hw7] at p2 r2
      obtain ⟨v9, w9, r9, o9, m9, b9⟩ := rep_push 23 L7 x (by omega) (by omega)
      obtain ⟨A9, c9, hv9, -, -⟩ := own_shape o9
      subst hv9
      rw [hLl, hxa, z7] at r9
      rw [hLl] at o9
      have hbs : ∀ W : World, (bsRow 23 1 #[(0, .agg #[.int .i64 (qk k).client, .int .i64 (qk k).num, .int .i64 (cK k), .slice Bv no gv])]).run Tryd.prog W = .ok (.slice (some ⟨W.heap.size, 0, none⟩) 1 1) (W.alloc (.cells #[.int .i64 (qk k).client, .int .i64 (qk k).num, .int .i64 (cK k), .slice Bv no gv] 43)) := fun W => by
        have := bs_M1R hxo W
        rw [hxa] at this
        exact this
      have mL : ∀ i, (Value.slice Al k cl).ownBlock = some i → w1.heap.size + 1 ≤ i ∧ i < wr.heap.size := fun i hi => own_lt hL hi
      have V9 := (V7.base (B' := wr.heap.size) (by simp; omega)).mv m9 (fun i hi => .inl (mL i hi).2)
      have EF := Lib.hid (And.intro ((m9.block _ (by omega) (fun c => by have := mL _ c; omega)).trans O7) (And.intro (V9.base (B' := w.heap.size + 2) (by have := hZ.lt; omega)) (And.intro d6 (And.intro o9 (And.intro (show (L ++ [x]).length = k + 1 by rw [List.length_append, hLl]; rfl) (And.intro (show OkAllR (L ++ [x]) from fun y hy => by
        rcases List.mem_append.1 hy with hy | hy
        · exact hLo y hy
        · rw [List.mem_singleton] at hy; rw [hy]; exact hxo) (And.intro (show ∀ i, i < k + 1 → ((L ++ [x]).getD i default).code = cK i from fun i hi => by
        rcases Nat.lt_or_ge i k with c | c
        · rw [List.getD_eq_getElem?_getD, List.getElem?_append_left (by omega), ← List.getD_eq_getElem?_getD]; exact hLc i c
        · obtain rfl : i = k := by omega
          rw [List.getD_eq_getElem?_getD, List.getElem?_append_right (by omega), hLl, Nat.sub_self]; exact hxc) (And.intro (Z7.of_block (m9.block _ Z7.lt (fun c => by have := mL _ c; have := hZ.lt; omega))) (B7.trans (m9.below B7.size (fun i hi => by have := mL i hi; omega)))))))))))
      clear hxc hxa hxo hx hO6 hY6 b56 z1 hY7 V7 O7 L7 Z7 B7 o9 m9 b9 mL V9 hO hS hd hL hLl hLo hLc hZ hb E EB S6 d6 OT6 ol6 os6 hb6 b5 hY m7 hap
      simp only [show four.length = 4 from rfl]
      go_wp2_with fail
      go_roundw
      case rel =>
        obtain ⟨e1, e2, e3, e4, e5, e6, e7, e8, e9⟩ := EF.out
        exact ⟨k + 1, by omega, by go_num, _, _, _, _, _, _, _, _, _, rs6, L ++ [x], A9, c9, e1, e2, e3, rfl, e4, e5, e6, e7, e8, e9⟩
      case measure => simp [intOf]; omega
    · have hkn : k = 2 := by omega
      have r1 : rowAt wr w1.heap.size 0 4 = some #[.slice A1 n1 c1, .slice A2 n2 c2, .int .i64 0, .slice A3 n3 c3] := by unfold rowAt; rw [hO]; exact cut_all _ _ rfl
      obtain ⟨p1, p2, -⟩ := hZ.put (cs := #[.slice A1 n1 c1, .slice A2 n2 c2, .int .i64 0, .slice A3 n3 c3]) rfl (st_ones _ _ _ _ _ _ _ _ _ _)
      have Vz := hS.mv (Mv.setRow (fp := (· = w.heap.size + 1)) wr (w.heap.size + 1) #[.slice A1 n1 c1, .slice A2 n2 c2, .int .i64 0, .slice A3 n3 c3] rfl) (fun i hi => by omega)
      have Lz := own_mv hL (Mv.setRow (fp := (· = w.heap.size + 1)) wr (w.heap.size + 1) #[.slice A1 n1 c1, .slice A2 n2 c2, .int .i64 0, .slice A3 n3 c3] rfl) (fun g hg c => by have := own_lt hL hg; omega)
      have HF := Lib.hid (And.intro Vz.sts (And.intro (own_mono Lz (B := w.heap.size) (by omega)) (And.intro hLl (And.intro hLo (And.intro hLc (below_setRow hb (Nat.le_succ _) #[.slice A1 n1 c1, .slice A2 n2 c2, .int .i64 0, .slice A3 n3 c3]))))))
      have hki : ¬ (k : Int) < 2 := by omega
      clear hO hS hd hL hLl hLo hLc hZ hb Vz Lz
      go_wp2_with fail
      refine bodyPost_ret (v := .tuple #[.agg #[.slice A1 n1 c1, .slice A2 n2 c2, .int .i64 0, .slice A3 n3 c3], .slice Al k cl]) (by rw [results_cell2 Tryd.results9]; simp [go_sem, p2, hkn]) rfl ?_
      obtain ⟨e1, e2, e3, e6, e4, e5⟩ := HF.out
      subst hkn
      exact ⟨_, _, rs, L, rfl, e1, e2, e3, e6, e4, e5⟩
set_option maxHeartbeats 1000000 in
/-- what the document tells holds -/
theorem alive_any (w : World) : Calls Tryd.prog 4 #[] w fun e w' => e = .returned (.bool true) ∧ Below w.heap.size w w' := by
  go_enter Tryd.func4, Tryd.ntmps4
  go_wp2_with fail
  refine (four_any _).mono ?_
  rintro e w1 ⟨A, rfl, M, hb1⟩
  go_wp2_with fail
  refine (new_any 0 A 4 4 four _ M (M.slok (by decide)) (by omega)).mono ?_
  rintro e w2 ⟨vm, rfl, own, hb2⟩
  obtain ⟨Am, cm, rfl, M2⟩ := MS_of_own own four_ok (by decide)
  obtain ⟨_, _, e, sm, -⟩ := own_shape own
  cases e
  have St : StS w2 (.agg #[.slice none 0 0, .slice none 0 0, .int .i64 0, .slice Am four.length cm]) [] [] 0 four :=
    ⟨⟨none, 0, none, 0, Am, cm, rfl, ⟨rfl, by decide, by simp, fun h => by simp at h⟩, ⟨fun _ => rfl, fun _ a h => by cases h⟩, ⟨rfl, by decide, by simp, fun h => by simp at h⟩, ⟨fun _ => rfl, fun _ a h => by cases h⟩, M2, sm, by simp⟩⟩
  have HB := Lib.hid (hb1.trans (hb2.mono hb1.size))
  clear own M2 sm M hb1 hb2
  go_wp2_with fail
  have ab := (Below.refl w2.heap.size w2).alloc (Nat.le_refl _) (.cells (qa.cells ++ qb.cells).toArray 39)
  refine (all_ab _ w2.heap.size _ (St.below ab) (rows_ab w2).1 (rows_ab w2).2 (by simp)).mono ?_
  rintro e w3 ⟨v', lv, rs', L, rfl, S3, own3, hl3, ho3, hc3, hb3⟩
  obtain ⟨Al, cl, rfl, R3⟩ := RS_of_own own3 ho3 (by decide)
  obtain ⟨b, off, rfl, hbb, hel⟩ := R3.mem (by decide)
  obtain ⟨_, _, e, -, h0⟩ := own_shape own3
  cases e
  obtain ⟨-, rfl, -⟩ := h0 _ _ _ rfl
  have c0 := cell_of_rowAt (hel 0 (by decide)) 2 _ (Rp.at2 _)
  have c1 := cell_of_rowAt (hel 1 (by decide)) 2 _ (Rp.at2 _)
  rw [hc3 0 (by decide)] at c0
  rw [hc3 1 (by decide)] at c1
  have HB3 := Lib.hid (HB.out.trans ((ab.trans (hb3.mono ab.size)).mono HB.out.size))
  have S3' := Lib.hid S3
  obtain ⟨Bp, bp, Br, br, Bm, bm, rfl, -⟩ := S3.ex
  clear hb3 ab hc3 own3 h0 hel R3 HB S3 St
  go_wp2_with fail
  have ab3 := (Below.refl w3.heap.size w3).alloc (Nat.le_refl _) (.cells #[.slice Bp 1 bp, .slice Br rs'.length br, .int .i64 0, .slice Bm four.length bm] 28)
  refine (Get_some _ [pa] rs' 0 four ⟨#[97]⟩ _ (S3'.out.below ab3) pa_B).mono ?_
  rw [pa_I]
  rintro e w4 ⟨rfl, hb4'⟩
  have hb4 := ab3.trans (hb4'.mono ab3.size)
  clear hb4' ab3
  replace c0 : w4.cell? ⟨b, 2, none⟩ = some (.int .i64 0) := (hb4.cell (p := ⟨b, 2, none⟩) hbb).trans c0
  replace c1 : w4.cell? ⟨b, 6, none⟩ = some (.int .i64 9) := (hb4.cell (p := ⟨b, 6, none⟩) hbb).trans c1
  have hb := Lib.hid (HB3.out.trans (hb4.mono HB3.out.size))
  clear hb4
  go_wp2_with fail
  go_ret
  exact ⟨ret_bool (by rw [ByteArray.toList_eq]; rfl), hb.out⟩
end Go.Proofs.YthaeofiplhbggaaDoor
