/-
A list has just the keys that begin so.
-/
import Derived.Test.YthaeofiplhbggaaDoorAll
namespace Go.Proofs.YthaeofiplhbggaaDoor
open Go.RowKit
set_option linter.unusedVariables false
set_option linter.unusedSimpArgs false
set_option maxRecDepth 100000
theorem listP_append (a b : List Pr) (k : ByteArray) : listP (a ++ b) k = listP a k ++ listP b k := by
  unfold listP; rw [List.map_append, List.filter_append]
theorem listP_take {ps : List Pr} {k : Nat} (p : ByteArray) (h : k < ps.length) : listP (ps.take (k + 1)) p = listP (ps.take k) p ++ (if hasPre (ps.getD k default).key p = true then [(ps.getD k default).key] else []) := by
  rw [List.take_succ_eq_append_getElem h, listP_append, List.getD_eq_getElem?_getD, List.getElem?_eq_getElem h]
  congr 1
  unfold listP
  simp only [List.map_cons, List.map_nil, List.filter_cons, List.filter_nil, Option.getD_some]
theorem listP_at {ps : List Pr} {k : Nat} (p : ByteArray) (h : k < ps.length) (hp : hasPre (ps.getD k default).key p = true) : (listP (ps.take k) p).length < (listP ps p).length ∧ (listP ps p).getD (listP (ps.take k) p).length ByteArray.empty = (ps.getD k default).key := by
  have e : listP ps p = listP (ps.take k) p ++ ((ps.getD k default).key :: listP (ps.drop (k + 1)) p) := by
    conv => lhs; rw [← List.take_append_drop (k + 1) ps]
    rw [listP_append, listP_take p h, if_pos hp, List.append_assoc]; rfl
  rw [e]
  constructor
  · rw [List.length_append, List.length_cons]; omega
  · rw [List.getD_eq_getElem?_getD, List.getElem?_append_right (Nat.le_refl _), Nat.sub_self]; rfl
theorem listP_small {w : World} {v : Value} {ps : List Pr} {rs : List Rp} {ep : Int} {ms : List Mb} (h : StS w v ps rs ep ms) {k : ByteArray} : ∀ s ∈ listP ps k, s.size ≤ 140737488355328 := by
  intro s hs
  obtain ⟨Ap, cp, Ar, cr, Am, cm, -, h1, -⟩ := h.ex
  unfold listP at hs
  obtain ⟨hs, -⟩ := List.mem_filter.1 hs
  obtain ⟨x, hx, rfl⟩ := List.mem_map.1 hs
  exact (h1.ok x hx).k
set_option maxHeartbeats 4000000 in
theorem lists_walk (v : Value) (ps : List Pr) (rs : List Rp) (ep : Int) (ms : List Mb) (client num : Int) (pre : ByteArray) (w : World) (h : StS w v ps rs ep ms) (hc : (Lit.int .i64 client).wf = true) (hn : (Lit.int .i64 num).wf = true) (hp : pre.size ≤ 140737488355328) :
    Calls Tryd.prog 3 #[v, .int .i64 client, .int .i64 num, .string pre] w fun e w' => e = .returned (.bool true) ∧ Below w.heap.size w w' := by
  obtain ⟨Ap, cp, Ar, cr, Am, cm, rfl, hP, -⟩ := h.ex
  obtain ⟨np, hnp⟩ : ∃ n, ps.length = n := ⟨_, rfl⟩
  obtain ⟨nr, hnr⟩ : ∃ n, rs.length = n := ⟨_, rfl⟩
  obtain ⟨nm, hnm⟩ : ∃ n, ms.length = n := ⟨_, rfl⟩
  have HN := Lib.hid (And.intro hnp (And.intro hnr hnm))
  have H := h
  rw [hnp] at hP
  have HP := Lib.hid hP
  clear hP
  rw [hnp, hnr, hnm] at H ⊢
  have HH := Lib.hid (And.intro H (And.intro hc (And.intro hn hp)))
  have hq : (Rq.mk client num ⟨5, pre, ByteArray.empty, ByteArray.empty, Chg.zero⟩).ok := ⟨hc, hn, ⟨show (Lit.int .i64 5).wf = true by decide, hp, show ByteArray.empty.size ≤ _ by decide, show ByteArray.empty.size ≤ _ by decide, Chg.zero_ok⟩⟩
  have HQ := Lib.hid hq
  have q1 := Rq.sz hq
  have q2 := Rq.ones (Rq.mk client num ⟨5, pre, ByteArray.empty, ByteArray.empty, Chg.zero⟩)
  have q3 := Rq.cutAll (Rq.size hq)
  have b1 : Below w.heap.size w (w.alloc (.cells #[.slice Ap np cp, .slice Ar nr cr, .int .i64 ep, .slice Am nm cm] 28)) := (Below.refl _ _).alloc (Nat.le_refl _) _
  have hA : (w.alloc (.cells #[.slice Ap np cp, .slice Ar nr cr, .int .i64 ep, .slice Am nm cm] 28)).heap[w.heap.size]? = _ := heap_alloc_new w _
  clear h H hnp hnr hnm hc hn hp hq
  go_enter Tryd.func3, Tryd.ntmps3
  go_wp2_with fail
  refine (alive_any _).mono ?_
  rintro e w1 ⟨rfl, hb1⟩
  have hA1 := (hb1.block _ (by simp)).trans hA
  have hB1 := b1.trans (hb1.mono b1.size)
  have r1 : rowAt w1 w.heap.size 0 4 = some #[.slice Ap np cp, .slice Ar nr cr, .int .i64 ep, .slice Am nm cm] := by unfold rowAt; rw [hA1]; exact cut_all _ _ rfl
  have l1 : w.heap.size < w1.heap.size := (Array.getElem?_eq_some_iff.1 hA1).1
  have E1 := Lib.hid (And.intro hA1 hB1)
  clear hA b1 hb1 hA1 hB1
  go_wp2_with fail
  have b2 : Below w1.heap.size w1 (w1.alloc (.cells (Rq.arr ⟨client, num, ⟨5, pre, ByteArray.empty, ByteArray.empty, Chg.zero⟩⟩) 39)) := (Below.refl _ _).alloc (Nat.le_refl _) _
  have hg2 := heap_alloc_new w1 (.cells (Rq.arr ⟨client, num, ⟨5, pre, ByteArray.empty, ByteArray.empty, Chg.zero⟩⟩) 39)
  have hB2 := E1.out.2.trans (b2.mono E1.out.2.size)
  have hlast : Calls Tryd.prog 5 #[.agg #[.slice Ap np cp, .slice Ar nr cr, .int .i64 ep, .slice Am nm cm], .int .i64 client] (w1.alloc (.cells (Rq.arr ⟨client, num, ⟨5, pre, ByteArray.empty, ByteArray.empty, Chg.zero⟩⟩) 39)) fun e w' => ∃ kc kn ke kA kl kp isb, e = .returned (.tuple #[.agg #[.int .i64 kc, .int .i64 kn, .int .i64 ke, .slice kA kl kp], .bool isb]) ∧ lastB rs client = isb ∧ (isb = true → kn = (rs.getD (lastI rs client) default).num) ∧ Below (w1.alloc (.cells (Rq.arr ⟨client, num, ⟨5, pre, ByteArray.empty, ByteArray.empty, Chg.zero⟩⟩) 39)).heap.size (w1.alloc (.cells (Rq.arr ⟨client, num, ⟨5, pre, ByteArray.empty, ByteArray.empty, Chg.zero⟩⟩) 39)) w' := by
    cases hb : lastB rs client
    · refine (Last_none _ ps rs ep ms client _ (HH.out.1.below hB2) hb).mono ?_
      rintro e w3 ⟨rfl, hb3⟩
      exact ⟨0, 0, 0, none, 0, 0, false, rfl, rfl, (fun h => by cases h), hb3⟩
    · refine (Last_some _ ps rs ep ms client _ (HH.out.1.below hB2) hb).mono ?_
      rintro e w3 ⟨hb3, v3, rfl, o3⟩
      obtain ⟨A3, c3, rfl⟩ := ot_shape o3 rfl
      exact ⟨_, _, _, A3, _, c3, true, rfl, rfl, fun _ => rfl, hb3⟩
  refine hlast.mono ?_
  rintro e w3 ⟨kc, kn, ke, kA, kl, kp, isb, rfl, hb, hkn, hb3⟩
  have hB3 := hB2.trans (hb3.mono hB2.size)
  have hg3 := (hb3.block _ (by simp)).trans hg2
  have hA3 := (hb3.block _ (by simp; omega)).trans ((b2.block _ l1).trans E1.out.1)
  have r3 : rowAt w3 w.heap.size 0 4 = some #[.slice Ap np cp, .slice Ar nr cr, .int .i64 ep, .slice Am nm cm] := by unfold rowAt; rw [hA3]; exact cut_all _ _ rfl
  have l3 : w1.heap.size < w3.heap.size := (Array.getElem?_eq_some_iff.1 hg3).1
  have lw3 : w.heap.size < w3.heap.size := by omega
  have b4 : Below w3.heap.size w3 (w3.alloc (.cells #[.int .i64 kc, .int .i64 kn, .int .i64 ke, .slice kA kl kp] 43)) := (Below.refl _ _).alloc (Nat.le_refl _) _
  have E3 := Lib.hid (And.intro (hB3.trans (b4.mono hB3.size)) (And.intro ((b4.block _ lw3).trans hA3) (And.intro ((b4.block _ l3).trans hg3) (And.intro hb (And.intro hkn (heap_alloc_new w3 (.cells #[.int .i64 kc, .int .i64 kn, .int .i64 ke, .slice kA kl kp] 43)))))))
  clear b2 hg2 hB2 hb3 hB3 hg3 hA3 hb E1 r1 hlast b4 hkn
  cases isb
  · go_wp2_with fail
    generalize w3.alloc (.cells #[.int .i64 kc, .int .i64 kn, .int .i64 ke, .slice kA kl kp] 43) = w4 at E3 ⊢
    refine (greatL_any _ ps rs ep ms _ (HH.out.1.below E3.out.1)).mono ?_
    rintro e w5 ⟨bg, rfl, hfit, hb5⟩
    have hB5 := E3.out.1.trans (hb5.mono E3.out.1.size)
    have hA5 := (hb5.block _ (Array.getElem?_eq_some_iff.1 E3.out.2.1).1).trans E3.out.2.1
    have hg5 := (hb5.block _ (Array.getElem?_eq_some_iff.1 E3.out.2.2.1).1).trans E3.out.2.2.1
    have hk5 := (hb5.block _ (Array.getElem?_eq_some_iff.1 E3.out.2.2.2.2.2).1).trans E3.out.2.2.2.2.2
    have E5 := Lib.hid (And.intro hB5 (And.intro hA5 (And.intro hg5 (And.intro hk5 (And.intro E3.out.2.2.2.1 (And.intro E3.out.2.2.2.2.1 hfit))))))
    have s5 : rowAt w5 w1.heap.size 0 42 = some (Rq.arr ⟨client, num, ⟨5, pre, ByteArray.empty, ByteArray.empty, Chg.zero⟩⟩) := by unfold rowAt; rw [hg5]; exact q3
    have k5 : w5.cell? ⟨w3.heap.size, 1, none⟩ = some (.int .i64 kn) := by rw [cell_of_row _ _ _ _ _ _ hk5]; rfl
    clear hb5 hB5 hA5 hg5 hk5 hfit E3 r3
    cases bg
    · go_wp2_with fail
      refine (refGood09_any HQ.out _).mono ?_
      rintro e w6 ⟨rfl, hb6⟩
      have hB6 := E5.out.1.trans (hb6.mono E5.out.1.size)
      have hA6 := (hb6.block _ (Array.getElem?_eq_some_iff.1 E5.out.2.1).1).trans E5.out.2.1
      have hg6 := (hb6.block _ (Array.getElem?_eq_some_iff.1 E5.out.2.2.1).1).trans E5.out.2.2.1
      have hk6 := (hb6.block _ (Array.getElem?_eq_some_iff.1 E5.out.2.2.2.1).1).trans E5.out.2.2.2.1
      have k6 : w6.cell? ⟨w3.heap.size, 1, none⟩ = some (.int .i64 kn) := by rw [cell_of_row _ _ _ _ _ _ hk6]; rfl
      have r6 : rowAt w6 w.heap.size 0 4 = some #[.slice Ap np cp, .slice Ar nr cr, .int .i64 ep, .slice Am nm cm] := by unfold rowAt; rw [hA6]; exact cut_all _ _ rfl
      have s6 : rowAt w6 w1.heap.size 0 42 = some (Rq.arr ⟨client, num, ⟨5, pre, ByteArray.empty, ByteArray.empty, Chg.zero⟩⟩) := by unfold rowAt; rw [hg6]; exact q3
      obtain ⟨hfit, -⟩ := E5.out.2.2.2.2.2.2 (by simp)
      cases hgd : rqGood ⟨client, num, ⟨5, pre, ByteArray.empty, ByteArray.empty, Chg.zero⟩⟩
      · have E6 := Lib.hid hB6
        clear hb6 hB6 hA6 hg6 hk6 hfit s5 k5 E5
        go_wp2_with fail
        go_ret
        exact ⟨rfl, E6.out⟩
      · have E6 := Lib.hid (And.intro hB6 (And.intro hA6 (And.intro hgd (And.intro E5.out.2.2.2.2.1 (And.intro E5.out.2.2.2.2.2.1 hfit)))))
        clear hb6 hB6 hA6 hg6 hk6 hfit s5 k5 E5 hgd
        have hout : ∀ (code : Int) (out : List ByteArray) (ps' : List Pr) (ep' : Int) (ms' : List Mb), (code = 0 ∧ out = listP ps pre ∧ ps' = ps ∧ ep' = ep ∧ ms' = ms) → (∀ s ∈ out, s.size ≤ 140737488355328) ∧ ps'.length ≤ 140737488355328 ∧ ms'.length ≤ 140737488355328 := by
          rintro code out ps' ep' ms' ⟨rfl, rfl, rfl, rfl, rfl⟩
          have hf := E6.out.2.2.2.2.2
          exact ⟨fun s hs => listP_small HH.out.1 s hs, by have := hf.p; omega, by have := hf.m; omega⟩
        go_wp2_with fail
        refine (apply_new _ ps rs ep ms _ _ (HH.out.1.below E6.out.1) HQ.out E6.out.2.2.1 E6.out.2.2.2.1 (by have := E6.out.2.2.2.2.2.m; omega) (by have := E6.out.2.2.2.2.2.p; omega) (by have := E6.out.2.2.2.2.2.r; omega) (fun code out ps' ep' ms' => code = 0 ∧ out = listP ps pre ∧ ps' = ps ∧ ep' = ep ∧ ms' = ms) (fun B O vp vr vm rs' w1 hb hB => does_list B O vp vr vm ps rs' ep ms _ w1 hb hB (by have := E6.out.2.2.2.2.2.p; omega) HQ.out.op rfl) hout).mono ?_
        rintro e w7 ⟨v', vals, code, out, ps', rs', ep', ms', rfl, V7, OT7, ol7, ⟨d1, d2, d3, d4, d5⟩, -, hb7⟩
        have d2' := d2.symm; have d3' := d3.symm
        subst d1 d2' d3'
        obtain ⟨B1, g1, B2, g2, B3, g3, rfl, -⟩ := V7.sts.ex
        obtain ⟨Bv, gv, rfl⟩ := ot_shape OT7 rfl
        obtain ⟨Bv', gv', hve, T7, K7⟩ := OT7.ts (by omega)
        cases hve
        have hB7 := E6.out.1.trans (hb7.mono E6.out.1.size)
        have hA7 := (hb7.block _ (Array.getElem?_eq_some_iff.1 E6.out.2.1).1).trans E6.out.2.1
        have lp : np ≤ 300 := by rw [← HN.out.1]; exact E6.out.2.2.2.2.2.p
        have lpi : (np : Int) ≤ 300 := by omega
        have P7 := HP.out.below hB7
        have l7 : w.heap.size < w7.heap.size := (Array.getElem?_eq_some_iff.1 hA7).1
        have c7 : w7.cell? ⟨w.heap.size, 0, none⟩ = some (.slice Ap np cp) := by rw [cell_of_row _ _ _ _ _ _ hA7]; rfl
        obtain ⟨nl, hnl⟩ : ∃ n, (listP ps pre).length = n := ⟨_, rfl⟩
        obtain ⟨n1, hn1⟩ : ∃ n, ps.length = n := ⟨_, rfl⟩
        rw [hnl] at OT7 T7 K7 ol7 ⊢
        have hnli : (nl : Int) ≤ 100000 := by omega
        have E7 := Lib.hid (And.intro hB7 (And.intro P7 (And.intro T7 (And.intro hnl V7))))
        clear hB7 P7 T7 K7 hnl V7 OT7 hA7 hb7 d2 d3 d4 d5 hout lp E6 r6 s6 k6 hn1
        rw [HN.out.1]
        generalize rs'.length = nr'
        generalize ms'.length = nm'
        go_wp2_with fail
        have b8 : Below w7.heap.size w7 ((w7.alloc (.cells #[.slice B1 np g1, .slice B2 nr' g2, .int .i64 ep', .slice B3 nm' g3] 28)).alloc (.cells #[.int .i64 client, .int .i64 num, .int .i64 0, .slice Bv nl gv] 43)) := ((Below.refl _ _).alloc (Nat.le_refl _) _).alloc (by simp) _
        have x8 : ((w7.alloc (.cells #[.slice B1 np g1, .slice B2 nr' g2, .int .i64 ep', .slice B3 nm' g3] 28)).alloc (.cells #[.int .i64 client, .int .i64 num, .int .i64 0, .slice Bv nl gv] 43)).heap[w7.heap.size]? = some (.cells #[.slice B1 np g1, .slice B2 nr' g2, .int .i64 ep', .slice B3 nm' g3] 28 (0, 0)) := by
          rw [Below.heap_alloc _ _ _ (by simp)]; exact heap_alloc_new w7 _
        have a8 : ((w7.alloc (.cells #[.slice B1 np g1, .slice B2 nr' g2, .int .i64 ep', .slice B3 nm' g3] 28)).alloc (.cells #[.int .i64 client, .int .i64 num, .int .i64 0, .slice Bv nl gv] 43)).heap[w7.heap.size + 1]? = some (.cells #[.int .i64 client, .int .i64 num, .int .i64 0, .slice Bv nl gv] 43 (0, 0)) := by
          have := heap_alloc_new (w7.alloc (.cells #[.slice B1 np g1, .slice B2 nr' g2, .int .i64 ep', .slice B3 nm' g3] 28)) (.cells #[.int .i64 client, .int .i64 num, .int .i64 0, .slice Bv nl gv] 43)
          simpa using this
        generalize hw8 : (w7.alloc (.cells #[.slice B1 np g1, .slice B2 nr' g2, .int .i64 ep', .slice B3 nm' g3] 28)).alloc (.cells #[.int .i64 client, .int .i64 num, .int .i64 0, .slice Bv nl gv] 43) = w8 at b8 x8 a8 ⊢
        have s8 : w7.heap.size + 2 = w8.heap.size := by rw [← hw8]; simp
        have E8 := Lib.hid (And.intro b8 (And.intro x8 (And.intro a8 s8)))
        have c80 := (b8.cell (p := ⟨w.heap.size, 0, none⟩) l7).trans c7
        clear hw8 b8 x8 a8 c7
        go_loopw [14, 55] (fun t14 t55 wr => ∃ k : Nat, k ≤ np ∧ t55 = .int .i64 k ∧ t14 = .int .i64 (listP (ps.take k) pre).length ∧ (listP (ps.take k) pre).length ≤ nl ∧ Below w8.heap.size w8 wr) (fun _ t _ => np - (intOf t).toNat)
        case atStart => exact ⟨0, Nat.zero_le _, rfl, rfl, Nat.zero_le _, Below.refl _ _⟩
        case round =>
          obtain ⟨k, hk, rfl, rfl, hml, hb⟩ := hrel
          have hk0 : (0 : Int) ≤ k := by omega
          have v3 : wr.cell? ⟨w7.heap.size + 1, 3, none⟩ = some (.slice Bv nl gv) := by rw [hb.cell (p := ⟨w7.heap.size + 1, 3, none⟩) (by simp; have := E8.out.2.2.2; omega), cell_of_row _ _ _ _ _ _ E8.out.2.2.1]; rfl
          have lr : w7.heap.size + 1 < wr.heap.size := by have := hb.size; have := E8.out.2.2.2; omega
          by_cases hlt : k < np
          · have hk1 : (k : Int) < np := by omega
            have hB8 : Below w.heap.size w wr := E7.out.1.trans ((E8.out.1.trans (hb.mono (by have := E8.out.2.2.2; omega))).mono E7.out.1.size)
            obtain ⟨b, off, hAp, hbb, hel⟩ := HP.out.mem (by omega)
            have hr := (rowAt_below hB8 hbb _ _).trans (hel k hlt)
            have hok := HP.out.okAt hlt
            have htk := listP_take pre (show k < ps.length by rw [HN.out.1]; exact hlt)
            have hat := listP_at pre (show k < ps.length by rw [HN.out.1]; exact hlt)
            have bA := fun ob : Obj => hb.trans (((Below.refl wr.heap.size wr).alloc (Nat.le_refl _) ob).mono hb.size)
            generalize ps.getD k default = x at hr hok htk hat
            obtain ⟨key, val⟩ := x
            replace hr : rowAt wr b (off + k * 2) 2 = some #[.string key, .string val] := hr
            replace htk : listP (ps.take (k + 1)) pre = listP (ps.take k) pre ++ (if hasPre key pre = true then [key] else []) := htk
            replace hat : hasPre key pre = true → (listP (ps.take k) pre).length < (listP ps pre).length ∧ (listP ps pre).getD (listP (ps.take k) pre).length ByteArray.empty = key := hat
            have hkk : (key.size : Int) ≤ 140737488355328 := by have : key.size ≤ 140737488355328 := hok.k; omega
            have hpk : (pre.size : Int) ≤ 140737488355328 := by have := HH.out.2.2.2; omega
            have BA := Lib.hid bA
            clear hB8 hel hok hb bA
            subst hAp
            obtain ⟨m, hm⟩ : ∃ m, (listP (ps.take k) pre).length = m := ⟨_, rfl⟩
            rw [hm] at hml hat ⊢
            have hmi : (m : Int) ≤ nl := by omega
            have hm0 : (0 : Int) ≤ m := by omega
            cases hpre : hasPre key pre
            · have E := Lib.hid (And.intro (show listP (ps.take (k + 1)) pre = listP (ps.take k) pre by rw [htk, if_neg (by rw [hpre]; decide), List.append_nil]) hm)
              unfold hasPre at hpre
              by_cases hlk : key.size < pre.size
              · have d1 : decide (key.size < pre.size) = true := decide_eq_true hlk
                have hlki : (key.size : Int) < pre.size := by omega
                clear htk hat hm hpre
                go_wp2_with fail
                go_roundw
                case rel => exact ⟨k + 1, by omega, by go_num, by rw [E.out.1, E.out.2], by rw [E.out.1, E.out.2]; exact hml, BA.out _⟩
                case measure => simp [intOf]; omega
              · have d1 : decide (key.size < pre.size) = false := decide_eq_false hlk
                have hlki : (pre.size : Int) ≤ key.size := by omega
                rw [decide_eq_true (by omega), Bool.true_and] at hpre
                clear htk hat hm
                go_wp2_with fail
                go_roundw
                case rel => exact ⟨k + 1, by omega, by go_num, by rw [E.out.1, E.out.2], by rw [E.out.1, E.out.2]; exact hml, BA.out _⟩
                case measure => simp [intOf]; omega
            · have E := Lib.hid (And.intro (show listP (ps.take (k + 1)) pre = listP (ps.take k) pre ++ [key] by rw [htk, if_pos hpre]) hm)
              obtain ⟨ha1, ha2⟩ := hat hpre
              rw [E7.out.2.2.2.1] at ha1
              unfold hasPre at hpre
              simp only [Bool.and_eq_true, decide_eq_true_eq] at hpre
              obtain ⟨hp1, hp2⟩ := hpre
              have d1 : decide (key.size < pre.size) = false := decide_eq_false (by omega)
              have d2 : decide (nl ≤ m) = false := decide_eq_false (by omega)
              have hlki : (pre.size : Int) ≤ key.size := by omega
              have hm1 : (m : Int) < nl := by omega
              have hm1' : m + 1 ≤ nl := by omega
              obtain ⟨bv, offv, hBv, lbv, hcv⟩ := E7.out.2.2.1.mem (by omega)
              subst hBv
              have hv := hcv m ha1
              rw [ha2] at hv
              have hvr : wr.cell? ⟨bv, offv + m, none⟩ = some (.string key) := by
                have h1 := (E8.out.1.cell (p := ⟨bv, offv + m, none⟩) lbv).trans hv
                have hb8 := BA.out (.cells #[] 51)
                have h2 := hb8.cell (p := ⟨bv, offv + m, none⟩) (by show bv < w8.heap.size; omega)
                rw [World.cell?_alloc_past _ _ _ (by show bv < wr.heap.size; omega)] at h2
                exact h2.trans h1
              have lbr : bv < wr.heap.size := by omega
              clear htk hat hm ha1 ha2 hcv hv lbv
              go_wp2_with fail
              go_quiet (fail)
              have bq := below_drewN (Below.refl (wr.alloc (.cells #[.string key, .string val] 51)).heap.size (wr.alloc (.cells #[.string key, .string val] 51))) nq
              go_wp2_with fail
              go_roundw
              case rel => exact ⟨k + 1, by omega, by go_num, by rw [E.out.1, List.length_append, E.out.2]; go_num, by rw [E.out.1, List.length_append, E.out.2]; exact hm1', (BA.out _).trans (bq.mono (BA.out _).size)⟩
              case measure => simp [intOf]; omega
          · have hkn : k = np := by omega
            rw [show ps.take k = ps by rw [hkn, ← HN.out.1, List.take_length], E7.out.2.2.2.1]
            have hB8 : Below w.heap.size w wr := E7.out.1.trans ((E8.out.1.trans (hb.mono (by have := E8.out.2.2.2; omega))).mono E7.out.1.size)
            have v2 : wr.cell? ⟨w7.heap.size + 1, 2, none⟩ = some (.int .i64 0) := by rw [hb.cell (p := ⟨w7.heap.size + 1, 2, none⟩) (by simp; have := E8.out.2.2.2; omega), cell_of_row _ _ _ _ _ _ E8.out.2.2.1]; rfl
            have v0 : wr.cell? ⟨w7.heap.size, 0, none⟩ = some (.slice B1 np g1) := by rw [hb.cell (p := ⟨w7.heap.size, 0, none⟩) (by simp; have := E8.out.2.2.2; omega), cell_of_row _ _ _ _ _ _ E8.out.2.1]; rfl
            have w0 : wr.cell? ⟨w.heap.size, 0, none⟩ = some (.slice Ap np cp) := (hb.cell (p := ⟨w.heap.size, 0, none⟩) (by simp; omega)).trans c80
            have E := Lib.hid hB8
            clear hb hB8 hml
            go_wp2_with fail
            go_ret
            exact ⟨rfl, E.out⟩
    · go_wp2_with fail
      go_ret
      exact ⟨rfl, E5.out.1⟩
  · go_wp2_with fail
    generalize w3.alloc (.cells #[.int .i64 kc, .int .i64 kn, .int .i64 ke, .slice kA kl kp] 43) = w4 at E3 ⊢
    refine (greatL_any _ ps rs ep ms _ (HH.out.1.below E3.out.1)).mono ?_
    rintro e w5 ⟨bg, rfl, hfit, hb5⟩
    have hB5 := E3.out.1.trans (hb5.mono E3.out.1.size)
    have hA5 := (hb5.block _ (Array.getElem?_eq_some_iff.1 E3.out.2.1).1).trans E3.out.2.1
    have hg5 := (hb5.block _ (Array.getElem?_eq_some_iff.1 E3.out.2.2.1).1).trans E3.out.2.2.1
    have hk5 := (hb5.block _ (Array.getElem?_eq_some_iff.1 E3.out.2.2.2.2.2).1).trans E3.out.2.2.2.2.2
    have E5 := Lib.hid (And.intro hB5 (And.intro hA5 (And.intro hg5 (And.intro hk5 (And.intro E3.out.2.2.2.1 (And.intro E3.out.2.2.2.2.1 hfit))))))
    have s5 : rowAt w5 w1.heap.size 0 42 = some (Rq.arr ⟨client, num, ⟨5, pre, ByteArray.empty, ByteArray.empty, Chg.zero⟩⟩) := by unfold rowAt; rw [hg5]; exact q3
    have k5 : w5.cell? ⟨w3.heap.size, 1, none⟩ = some (.int .i64 kn) := by rw [cell_of_row _ _ _ _ _ _ hk5]; rfl
    clear hb5 hB5 hA5 hg5 hk5 hfit E3 r3
    cases bg
    · go_wp2_with fail
      refine (refGood09_any HQ.out _).mono ?_
      rintro e w6 ⟨rfl, hb6⟩
      have hB6 := E5.out.1.trans (hb6.mono E5.out.1.size)
      have hA6 := (hb6.block _ (Array.getElem?_eq_some_iff.1 E5.out.2.1).1).trans E5.out.2.1
      have hg6 := (hb6.block _ (Array.getElem?_eq_some_iff.1 E5.out.2.2.1).1).trans E5.out.2.2.1
      have hk6 := (hb6.block _ (Array.getElem?_eq_some_iff.1 E5.out.2.2.2.1).1).trans E5.out.2.2.2.1
      have k6 : w6.cell? ⟨w3.heap.size, 1, none⟩ = some (.int .i64 kn) := by rw [cell_of_row _ _ _ _ _ _ hk6]; rfl
      have r6 : rowAt w6 w.heap.size 0 4 = some #[.slice Ap np cp, .slice Ar nr cr, .int .i64 ep, .slice Am nm cm] := by unfold rowAt; rw [hA6]; exact cut_all _ _ rfl
      have s6 : rowAt w6 w1.heap.size 0 42 = some (Rq.arr ⟨client, num, ⟨5, pre, ByteArray.empty, ByteArray.empty, Chg.zero⟩⟩) := by unfold rowAt; rw [hg6]; exact q3
      obtain ⟨hfit, -⟩ := E5.out.2.2.2.2.2.2 (by simp)
      cases hgd : rqGood ⟨client, num, ⟨5, pre, ByteArray.empty, ByteArray.empty, Chg.zero⟩⟩
      · have E6 := Lib.hid hB6
        clear hb6 hB6 hA6 hg6 hk6 hfit s5 k5 E5
        go_wp2_with fail
        go_ret
        exact ⟨rfl, E6.out⟩
      · have E6 := Lib.hid (And.intro hB6 (And.intro hA6 (And.intro hgd (And.intro E5.out.2.2.2.2.1 (And.intro E5.out.2.2.2.2.2.1 hfit)))))
        clear hb6 hB6 hA6 hg6 hk6 hfit s5 k5 E5 hgd
        by_cases hnum : num ≤ kn
        · go_wp2_with fail
          go_ret
          exact ⟨rfl, E6.out.1⟩
        have hnum' : kn < num := by omega
        have hout : ∀ (code : Int) (out : List ByteArray) (ps' : List Pr) (ep' : Int) (ms' : List Mb), (code = 0 ∧ out = listP ps pre ∧ ps' = ps ∧ ep' = ep ∧ ms' = ms) → (∀ s ∈ out, s.size ≤ 140737488355328) ∧ ps'.length ≤ 140737488355328 ∧ ms'.length ≤ 140737488355328 := by
          rintro code out ps' ep' ms' ⟨rfl, rfl, rfl, rfl, rfl⟩
          have hf := E6.out.2.2.2.2.2
          exact ⟨fun s hs => listP_small HH.out.1 s hs, by have := hf.p; omega, by have := hf.m; omega⟩
        go_wp2_with fail
        refine (apply_known _ ps rs ep ms _ _ (HH.out.1.below E6.out.1) HQ.out E6.out.2.2.1 E6.out.2.2.2.1 (by show (rs.getD (lastI rs client) default).num < num; rw [← E6.out.2.2.2.2.1 (by simp)]; exact hnum') (by have := E6.out.2.2.2.2.2.m; omega) (by have := E6.out.2.2.2.2.2.p; omega) (by have := E6.out.2.2.2.2.2.r; omega) (fun code out ps' ep' ms' => code = 0 ∧ out = listP ps pre ∧ ps' = ps ∧ ep' = ep ∧ ms' = ms) (fun B O vp vr vm rs' w1 hb hB => does_list B O vp vr vm ps rs' ep ms _ w1 hb hB (by have := E6.out.2.2.2.2.2.p; omega) HQ.out.op rfl) hout).mono ?_
        rintro e w7 ⟨v', vals, code, out, ps', rs', ep', ms', rfl, V7, OT7, ol7, ⟨d1, d2, d3, d4, d5⟩, -, hb7⟩
        have d2' := d2.symm; have d3' := d3.symm
        subst d1 d2' d3'
        obtain ⟨B1, g1, B2, g2, B3, g3, rfl, -⟩ := V7.sts.ex
        obtain ⟨Bv, gv, rfl⟩ := ot_shape OT7 rfl
        obtain ⟨Bv', gv', hve, T7, K7⟩ := OT7.ts (by omega)
        cases hve
        have hB7 := E6.out.1.trans (hb7.mono E6.out.1.size)
        have hA7 := (hb7.block _ (Array.getElem?_eq_some_iff.1 E6.out.2.1).1).trans E6.out.2.1
        have lp : np ≤ 300 := by rw [← HN.out.1]; exact E6.out.2.2.2.2.2.p
        have lpi : (np : Int) ≤ 300 := by omega
        have P7 := HP.out.below hB7
        have l7 : w.heap.size < w7.heap.size := (Array.getElem?_eq_some_iff.1 hA7).1
        have c7 : w7.cell? ⟨w.heap.size, 0, none⟩ = some (.slice Ap np cp) := by rw [cell_of_row _ _ _ _ _ _ hA7]; rfl
        obtain ⟨nl, hnl⟩ : ∃ n, (listP ps pre).length = n := ⟨_, rfl⟩
        obtain ⟨n1, hn1⟩ : ∃ n, ps.length = n := ⟨_, rfl⟩
        rw [hnl] at OT7 T7 K7 ol7 ⊢
        have hnli : (nl : Int) ≤ 100000 := by omega
        have E7 := Lib.hid (And.intro hB7 (And.intro P7 (And.intro T7 (And.intro hnl V7))))
        clear hB7 P7 T7 K7 hnl V7 OT7 hA7 hb7 d2 d3 d4 d5 hout lp E6 r6 s6 k6 hn1
        rw [HN.out.1]
        generalize rs'.length = nr'
        generalize ms'.length = nm'
        go_wp2_with fail
        have b8 : Below w7.heap.size w7 ((w7.alloc (.cells #[.slice B1 np g1, .slice B2 nr' g2, .int .i64 ep', .slice B3 nm' g3] 28)).alloc (.cells #[.int .i64 client, .int .i64 num, .int .i64 0, .slice Bv nl gv] 43)) := ((Below.refl _ _).alloc (Nat.le_refl _) _).alloc (by simp) _
        have x8 : ((w7.alloc (.cells #[.slice B1 np g1, .slice B2 nr' g2, .int .i64 ep', .slice B3 nm' g3] 28)).alloc (.cells #[.int .i64 client, .int .i64 num, .int .i64 0, .slice Bv nl gv] 43)).heap[w7.heap.size]? = some (.cells #[.slice B1 np g1, .slice B2 nr' g2, .int .i64 ep', .slice B3 nm' g3] 28 (0, 0)) := by
          rw [Below.heap_alloc _ _ _ (by simp)]; exact heap_alloc_new w7 _
        have a8 : ((w7.alloc (.cells #[.slice B1 np g1, .slice B2 nr' g2, .int .i64 ep', .slice B3 nm' g3] 28)).alloc (.cells #[.int .i64 client, .int .i64 num, .int .i64 0, .slice Bv nl gv] 43)).heap[w7.heap.size + 1]? = some (.cells #[.int .i64 client, .int .i64 num, .int .i64 0, .slice Bv nl gv] 43 (0, 0)) := by
          have := heap_alloc_new (w7.alloc (.cells #[.slice B1 np g1, .slice B2 nr' g2, .int .i64 ep', .slice B3 nm' g3] 28)) (.cells #[.int .i64 client, .int .i64 num, .int .i64 0, .slice Bv nl gv] 43)
          simpa using this
        generalize hw8 : (w7.alloc (.cells #[.slice B1 np g1, .slice B2 nr' g2, .int .i64 ep', .slice B3 nm' g3] 28)).alloc (.cells #[.int .i64 client, .int .i64 num, .int .i64 0, .slice Bv nl gv] 43) = w8 at b8 x8 a8 ⊢
        have s8 : w7.heap.size + 2 = w8.heap.size := by rw [← hw8]; simp
        have E8 := Lib.hid (And.intro b8 (And.intro x8 (And.intro a8 s8)))
        have c80 := (b8.cell (p := ⟨w.heap.size, 0, none⟩) l7).trans c7
        clear hw8 b8 x8 a8 c7
        go_loopw [14, 55] (fun t14 t55 wr => ∃ k : Nat, k ≤ np ∧ t55 = .int .i64 k ∧ t14 = .int .i64 (listP (ps.take k) pre).length ∧ (listP (ps.take k) pre).length ≤ nl ∧ Below w8.heap.size w8 wr) (fun _ t _ => np - (intOf t).toNat)
        case atStart => exact ⟨0, Nat.zero_le _, rfl, rfl, Nat.zero_le _, Below.refl _ _⟩
        case round =>
          obtain ⟨k, hk, rfl, rfl, hml, hb⟩ := hrel
          have hk0 : (0 : Int) ≤ k := by omega
          have v3 : wr.cell? ⟨w7.heap.size + 1, 3, none⟩ = some (.slice Bv nl gv) := by rw [hb.cell (p := ⟨w7.heap.size + 1, 3, none⟩) (by simp; have := E8.out.2.2.2; omega), cell_of_row _ _ _ _ _ _ E8.out.2.2.1]; rfl
          have lr : w7.heap.size + 1 < wr.heap.size := by have := hb.size; have := E8.out.2.2.2; omega
          by_cases hlt : k < np
          · have hk1 : (k : Int) < np := by omega
            have hB8 : Below w.heap.size w wr := E7.out.1.trans ((E8.out.1.trans (hb.mono (by have := E8.out.2.2.2; omega))).mono E7.out.1.size)
            obtain ⟨b, off, hAp, hbb, hel⟩ := HP.out.mem (by omega)
            have hr := (rowAt_below hB8 hbb _ _).trans (hel k hlt)
            have hok := HP.out.okAt hlt
            have htk := listP_take pre (show k < ps.length by rw [HN.out.1]; exact hlt)
            have hat := listP_at pre (show k < ps.length by rw [HN.out.1]; exact hlt)
            have bA := fun ob : Obj => hb.trans (((Below.refl wr.heap.size wr).alloc (Nat.le_refl _) ob).mono hb.size)
            generalize ps.getD k default = x at hr hok htk hat
            obtain ⟨key, val⟩ := x
            replace hr : rowAt wr b (off + k * 2) 2 = some #[.string key, .string val] := hr
            replace htk : listP (ps.take (k + 1)) pre = listP (ps.take k) pre ++ (if hasPre key pre = true then [key] else []) := htk
            replace hat : hasPre key pre = true → (listP (ps.take k) pre).length < (listP ps pre).length ∧ (listP ps pre).getD (listP (ps.take k) pre).length ByteArray.empty = key := hat
            have hkk : (key.size : Int) ≤ 140737488355328 := by have : key.size ≤ 140737488355328 := hok.k; omega
            have hpk : (pre.size : Int) ≤ 140737488355328 := by have := HH.out.2.2.2; omega
            have BA := Lib.hid bA
            clear hB8 hel hok hb bA
            subst hAp
            obtain ⟨m, hm⟩ : ∃ m, (listP (ps.take k) pre).length = m := ⟨_, rfl⟩
            rw [hm] at hml hat ⊢
            have hmi : (m : Int) ≤ nl := by omega
            have hm0 : (0 : Int) ≤ m := by omega
            cases hpre : hasPre key pre
            · have E := Lib.hid (And.intro (show listP (ps.take (k + 1)) pre = listP (ps.take k) pre by rw [htk, if_neg (by rw [hpre]; decide), List.append_nil]) hm)
              unfold hasPre at hpre
              by_cases hlk : key.size < pre.size
              · have d1 : decide (key.size < pre.size) = true := decide_eq_true hlk
                have hlki : (key.size : Int) < pre.size := by omega
                clear htk hat hm hpre
                go_wp2_with fail
                go_roundw
                case rel => exact ⟨k + 1, by omega, by go_num, by rw [E.out.1, E.out.2], by rw [E.out.1, E.out.2]; exact hml, BA.out _⟩
                case measure => simp [intOf]; omega
              · have d1 : decide (key.size < pre.size) = false := decide_eq_false hlk
                have hlki : (pre.size : Int) ≤ key.size := by omega
                rw [decide_eq_true (by omega), Bool.true_and] at hpre
                clear htk hat hm
                go_wp2_with fail
                go_roundw
                case rel => exact ⟨k + 1, by omega, by go_num, by rw [E.out.1, E.out.2], by rw [E.out.1, E.out.2]; exact hml, BA.out _⟩
                case measure => simp [intOf]; omega
            · have E := Lib.hid (And.intro (show listP (ps.take (k + 1)) pre = listP (ps.take k) pre ++ [key] by rw [htk, if_pos hpre]) hm)
              obtain ⟨ha1, ha2⟩ := hat hpre
              rw [E7.out.2.2.2.1] at ha1
              unfold hasPre at hpre
              simp only [Bool.and_eq_true, decide_eq_true_eq] at hpre
              obtain ⟨hp1, hp2⟩ := hpre
              have d1 : decide (key.size < pre.size) = false := decide_eq_false (by omega)
              have d2 : decide (nl ≤ m) = false := decide_eq_false (by omega)
              have hlki : (pre.size : Int) ≤ key.size := by omega
              have hm1 : (m : Int) < nl := by omega
              have hm1' : m + 1 ≤ nl := by omega
              obtain ⟨bv, offv, hBv, lbv, hcv⟩ := E7.out.2.2.1.mem (by omega)
              subst hBv
              have hv := hcv m ha1
              rw [ha2] at hv
              have hvr : wr.cell? ⟨bv, offv + m, none⟩ = some (.string key) := by
                have h1 := (E8.out.1.cell (p := ⟨bv, offv + m, none⟩) lbv).trans hv
                have hb8 := BA.out (.cells #[] 51)
                have h2 := hb8.cell (p := ⟨bv, offv + m, none⟩) (by show bv < w8.heap.size; omega)
                rw [World.cell?_alloc_past _ _ _ (by show bv < wr.heap.size; omega)] at h2
                exact h2.trans h1
              have lbr : bv < wr.heap.size := by omega
              clear htk hat hm ha1 ha2 hcv hv lbv
              go_wp2_with fail
              go_quiet (fail)
              have bq := below_drewN (Below.refl (wr.alloc (.cells #[.string key, .string val] 51)).heap.size (wr.alloc (.cells #[.string key, .string val] 51))) nq
              go_wp2_with fail
              go_roundw
              case rel => exact ⟨k + 1, by omega, by go_num, by rw [E.out.1, List.length_append, E.out.2]; go_num, by rw [E.out.1, List.length_append, E.out.2]; exact hm1', (BA.out _).trans (bq.mono (BA.out _).size)⟩
              case measure => simp [intOf]; omega
          · have hkn : k = np := by omega
            rw [show ps.take k = ps by rw [hkn, ← HN.out.1, List.take_length], E7.out.2.2.2.1]
            have hB8 : Below w.heap.size w wr := E7.out.1.trans ((E8.out.1.trans (hb.mono (by have := E8.out.2.2.2; omega))).mono E7.out.1.size)
            have v2 : wr.cell? ⟨w7.heap.size + 1, 2, none⟩ = some (.int .i64 0) := by rw [hb.cell (p := ⟨w7.heap.size + 1, 2, none⟩) (by simp; have := E8.out.2.2.2; omega), cell_of_row _ _ _ _ _ _ E8.out.2.2.1]; rfl
            have v0 : wr.cell? ⟨w7.heap.size, 0, none⟩ = some (.slice B1 np g1) := by rw [hb.cell (p := ⟨w7.heap.size, 0, none⟩) (by simp; have := E8.out.2.2.2; omega), cell_of_row _ _ _ _ _ _ E8.out.2.1]; rfl
            have w0 : wr.cell? ⟨w.heap.size, 0, none⟩ = some (.slice Ap np cp) := (hb.cell (p := ⟨w.heap.size, 0, none⟩) (by simp; omega)).trans c80
            have E := Lib.hid hB8
            clear hb hB8 hml
            go_wp2_with fail
            go_ret
            exact ⟨rfl, E.out⟩
    · go_wp2_with fail
      go_ret
      exact ⟨rfl, E5.out.1⟩
end Go.Proofs.YthaeofiplhbggaaDoor
