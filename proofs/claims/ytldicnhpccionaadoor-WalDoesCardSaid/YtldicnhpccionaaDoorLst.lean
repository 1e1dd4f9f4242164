/-
Lists of byte slices in memory; a log; the records of a list, one behind the other.
-/
import Derived.Test.YtldicnhpccionaaDoorPdB
namespace Go.Proofs.YtldicnhpccionaaDoor
open Go.RowKit
set_option linter.unusedVariables false
set_option linter.unusedSimpArgs false
/-- an element: a slice over these bytes, in such a block -/
structure El (P : Nat → Prop) (w : World) (a : Addr) (l : List UInt8) : Prop where
  ex : ∃ A c, w.cell? a = some (.slice A l.length c) ∧ BL w A l ∧ (A = none → c = 0 ∧ l = []) ∧ (∀ b o, A = some ⟨b, o, none⟩ → 0 < l.length → P b)
/-- a slice over such slices -/
structure Lst (P : Nat → Prop) (w : World) (v : Value) (ls : List (List UInt8)) : Prop where
  ex : ∃ A cap, v = .slice A ls.length cap ∧ ls.length ≤ cap ∧ (0 < ls.length → ∃ g o, A = some ⟨g, o, none⟩ ∧ g < w.heap.size ∧ P g ∧ ∀ i, i < ls.length → El P w ⟨g, o + i, none⟩ (ls.getD i []))
theorem El.mv {P P' : Nat → Prop} {w w' : World} {a : Addr} {l : List UInt8} {fp : Nat → Prop} (h : El P w a l) (m : Mv fp w w') (ha : a.block < w.heap.size) (hP : P a.block) (hp : ∀ i, i < w.heap.size → P i → ¬ fp i ∧ P' i) : El P' w' a l := by
  obtain ⟨A, c, h1, h2, h3, h4⟩ := h.ex
  refine ⟨⟨A, c, (m.cell ha (hp _ ha hP).1).trans h1, h2.mv m (fun b o e h0 => ?_), h3, fun b o e h0 => ?_⟩⟩
  · obtain ⟨b2, o2, e2, hlt, -⟩ := h2.mem h0
    rw [e] at e2; cases e2
    exact (hp b hlt (h4 b o e h0)).1
  · obtain ⟨b2, o2, e2, hlt, -⟩ := h2.mem h0
    rw [e] at e2; cases e2
    exact (hp b hlt (h4 b o e h0)).2
theorem Lst.mv {P P' : Nat → Prop} {w w' : World} {v : Value} {ls : List (List UInt8)} {fp : Nat → Prop} (h : Lst P w v ls) (m : Mv fp w w') (hp : ∀ i, i < w.heap.size → P i → ¬ fp i ∧ P' i) : Lst P' w' v ls := by
  obtain ⟨A, cap, hv, hc, he⟩ := h.ex
  refine ⟨⟨A, cap, hv, hc, fun h0 => ?_⟩⟩
  obtain ⟨g, o, hA, hg, hP, hel⟩ := he h0
  exact ⟨g, o, hA, Nat.lt_of_lt_of_le hg m.size, (hp g hg hP).2, fun i hi => (hel i hi).mv m hg hP hp⟩
theorem Lst.below {P : Nat → Prop} {w w' : World} {v : Value} {ls : List (List UInt8)} (h : Lst P w v ls) (hb : Below w.heap.size w w') : Lst P w' v ls :=
  h.mv (Mv.of_below (fp := fun _ => False) hb) (fun i _ hP => ⟨fun c => c, hP⟩)
theorem OutL.lst {w : World} {B : Nat} {v : Value} {ls : List (List UInt8)} (h : OutL w B v ls) : Lst (fun i => B ≤ i) w v ls := by
  obtain ⟨vs, ho, hr⟩ := h
  rcases ho.2 with ⟨rfl, h0⟩ | ⟨g, cap, cur, rfl, hB, hh, hc, hm, hs, hx⟩
  · exact ⟨⟨none, 0, by rw [h0], by omega, fun h => by omega⟩⟩
  · refine ⟨⟨_, cap, rfl, hc, fun h => ⟨g, 0, rfl, (Array.getElem?_eq_some_iff.1 hh).1, hB, fun i hi => ?_⟩⟩⟩
    obtain ⟨v, hv, A, c, rfl, hbl, hA, hne⟩ := hr i hi
    refine ⟨⟨A, c, ?_, hbl, hA, fun b o e h0 => (hne b o e h0).2⟩⟩
    rw [Nat.zero_add]
    rw [← hx, Nat.mul_one] at hv
    rw [List.getElem?_take, if_pos hi] at hv
    simp [World.cell?, hh]
    simpa using hv
/-- a log: its disk and its name -/
structure LogAt (w : World) (lb db : Nat) (nm : ByteArray) : Prop where
  d : w.cell? ⟨lb, 0, none⟩ = some (.pointer (some ⟨db, 0, none⟩))
  n : w.cell? ⟨lb, 1, none⟩ = some (.string nm)
theorem LogAt.lt {w : World} {lb db : Nat} {nm : ByteArray} (h : LogAt w lb db nm) : lb < w.heap.size := World.block_lt_of_cell? w _ h.d
theorem LogAt.mv {w w' : World} {lb db : Nat} {nm : ByteArray} {fp : Nat → Prop} (h : LogAt w lb db nm) (m : Mv fp w w') (hf : ¬ fp lb) : LogAt w' lb db nm :=
  ⟨(m.cell (p := ⟨lb, 0, none⟩) h.lt hf).trans h.d, (m.cell (p := ⟨lb, 1, none⟩) h.lt hf).trans h.n⟩
theorem framesL_take {ls : List (List UInt8)} {k : Nat} (h : k < ls.length) : framesL (ls.take (k + 1)) = framesL (ls.take k) ++ frameL (ls.getD k []) := by
  unfold framesL
  rw [List.take_succ_eq_append_getElem h, List.flatMap_append, List.getD_eq_getElem?_getD, List.getElem?_eq_getElem h]
  simp
theorem frames_le {ls : List (List UInt8)} (k : Nat) : (framesL (ls.take k)).length ≤ (framesL ls).length := by
  have : framesL ls = framesL (ls.take k) ++ framesL (ls.drop k) := by unfold framesL; rw [← List.flatMap_append, List.take_append_drop]
  rw [this, List.length_append]; omega
theorem len_le_frames {ls : List (List UInt8)} {l : List UInt8} (h : l ∈ ls) : l.length ≤ (framesL ls).length := by
  induction ls with
  | nil => cases h
  | cons x r ih =>
    have e : framesL (x :: r) = frameL x ++ framesL r := by simp [framesL]
    rw [e, List.length_append, frameL_len]
    rcases List.mem_cons.1 h with rfl | h
    · omega
    · have := ih h; omega
theorem cnt_le_frames (ls : List (List UInt8)) : ls.length ≤ (framesL ls).length := by
  induction ls with
  | nil => simp
  | cons x r ih =>
    have e : framesL (x :: r) = frameL x ++ framesL r := by simp [framesL]
    rw [e, List.length_append, frameL_len, List.length_cons]; omega
theorem Tab.below {w w' : World} {B : Nat} (h : Tab w) (hb : Below B w w') (h0 : 0 < B) : Tab w' := fun i hi => (hb.cell (p := ⟨0, i, none⟩) h0).trans (h i hi)
@[go_sem ↓] theorem ap_B_lst (ty : TypeId) (args : Array Value) : Builtin.append_ #[25, 25] ty args = apRow #[25, 25] ty args := rfl
theorem ob_ends {w : World} {B : Nat} {A : Option Addr} {n c : Nat} {l : List UInt8} (h : OB w B (.slice A n c) l) (hl : l.length = n) : (A = none → c = 0 ∧ l = []) ∧ ∀ g o, A = some ⟨g, o, none⟩ → B ≤ g ∧ g < w.heap.size := by
  rcases h.2 with ⟨hv, h0⟩ | ⟨g9, _, _, hv, -⟩
  · have e := (Value.slice.inj hv).1
    exact ⟨fun _ => ⟨(Value.slice.inj hv).2.2, List.length_eq_zero_iff.1 h0⟩, fun g o hA => (by rw [hA] at e; cases e)⟩
  · have e := (Value.slice.inj hv).1
    refine ⟨fun hA => (by rw [hA] at e; cases e), fun g o hA => ob_lt h ?_⟩
    rw [hA] at e
    simp only [Option.some.injEq, Addr.mk.injEq] at e
    obtain ⟨rfl, rfl, _⟩ := e
    rw [hA]; rfl
set_option maxRecDepth 100000 in
set_option maxHeartbeats 1000000 in
theorem lAppend_any {B db lb : Nat} {F P : Nat → Prop} {p : PD} {nm : ByteArray} (v : Value) (ls : List (List UInt8)) (w : World) (hlog : LogAt w lb db nm) (hlb : ¬ F lb) (h : DkS B db F p w) (ok : p.ok) (hs : nm.size ≤ 1000000) (hL : Lst P w v ls) (htab : Tab w) (hw0 : 0 < w.heap.size)
    (hf : sumC p.cs + (framesL ls).length ≤ 100000) :
    Calls Tryd.prog 19 #[.pointer (some ⟨lb, 0, none⟩), v] w (DkEnd B db F (appendP p nm (framesL ls)).1 (.int .i64 (appendP p nm (framesL ls)).2) w) := by
  obtain ⟨A, cap, rfl, hcap, hel⟩ := hL.ex
  obtain ⟨n, hn⟩ : ∃ n, ls.length = n := ⟨_, rfl⟩
  have hn1 := cnt_le_frames ls
  have hni : (n : Int) ≤ 100000 := by omega
  have hni0 : (0 : Int) ≤ n := by omega
  have HEL := Lib.hid hel
  have HLOG := Lib.hid hlog
  have HLB := Lib.hid hlb
  have HD := Lib.hid h.tight
  have OK := Lib.hid ok
  have HT := Lib.hid htab
  have HN := Lib.hid hn
  rw [hn]
  clear hL hel hlog hlb h ok htab hn hn1 hcap
  go_enter Tryd.func19, Tryd.ntmps19
  go_wp2_with fail
  go_loopw [5, 12] (fun s t wr => ∃ k : Nat, k ≤ n ∧ t = .int .i64 k ∧ OB wr w.heap.size s (framesL (ls.take k)) ∧ Below w.heap.size w wr) (fun _ t _ => n - (intOf t).toNat)
  case atStart => exact ⟨0, Nat.zero_le _, rfl, ob_nil _ _, Below.refl _ _⟩
  case round =>
    obtain ⟨k, hk, rfl, ho, hb⟩ := hrel
    have hk0 : (0 : Int) ≤ k := by omega
    by_cases hlt : k < n
    · obtain ⟨g, o, rfl, hg, hP, hel⟩ := HEL.out (by have := HN.out; omega)
      have hlk : k < ls.length := by have := HN.out; omega
      obtain ⟨Ak, ck, hc, hbl, hA, -⟩ := (hel k hlk).ex
      have hmem : ls.getD k [] ∈ ls := by rw [List.getD_eq_getElem?_getD, List.getElem?_eq_getElem hlk]; exact List.getElem_mem hlk
      have hll := len_le_frames hmem
      have htk := framesL_take hlk
      have hle := frames_le (ls := ls) (k + 1)
      rw [htk, List.length_append, frameL_len] at hle
      generalize ls.getD k [] = l at hc hbl hA hmem hll htk hle
      obtain ⟨m, hm⟩ : ∃ m, l.length = m := ⟨_, rfl⟩
      rw [hm] at hc hll hle
      have hk1 : (k : Int) < n := by omega
      have hcr : wr.cell? ⟨g, o + k, none⟩ = some (.slice Ak m ck) := (hb.cell (p := ⟨g, o + k, none⟩) hg).trans hc
      have hfr := Lib.hid (frame_any Ak m ck l wr (hbl.below hb) hm (fun e => (hA e).2) (by omega) (HT.out.below hb hw0) (Nat.lt_of_lt_of_le hw0 hb.size))
      obtain ⟨Aa, ca, rfl, -⟩ := ob_shape ho rfl
      have HO := Lib.hid ho
      have HB := Lib.hid hb
      have HTK := Lib.hid htk
      have HLE := Lib.hid hle
      have HMM := Lib.hid hm
      clear hc hbl hA hmem hll htk hle hb ho hm hel hP hg
      go_wp2_with fail
      refine hfr.out.mono ?_
      rintro e w1 ⟨A2, c2, rfl, hb2, be2⟩
      have o1 := HO.out.mv (Mv.of_below (fp := fun _ => False) be2) (fun _ _ c => c)
      have hfl := frameL_len l
      have hbw := HB.out.trans (be2.mono HB.out.size)
      obtain ⟨v', w2, r2, o2, g2, -⟩ := ob_any c2 25 o1 hb2 rfl (fun e => by
        obtain ⟨_, _, e2, _⟩ := hb2.mem (by omega)
        rw [e] at e2; cases e2) (by have := HLE.out; have := HMM.out; omega) hbw.size
      have hbw2 := hbw.grown g2 hbw.size (fun j hj => (ob_lt o1 hj).1)
      rw [← HTK.out] at o2
      have E := Lib.hid (And.intro o2 hbw2)
      clear o1 o2 g2 hbw hbw2 hb2 be2 hfl
      go_wp2_with fail
      go_roundw
      case rel => exact ⟨k + 1, by omega, by go_num, E.out.1, E.out.2⟩
      case measure => simp [intOf]; omega
    · have hkn : k = n := by omega
      rw [show ls.take k = ls by rw [hkn, ← HN.out, List.take_length]] at ho
      obtain ⟨Aa, ca, rfl, -⟩ := ob_shape ho rfl
      have hd := HD.out.below hb
      have hlog := HLOG.out.mv (Mv.of_below (fp := fun _ => False) hb) (fun c => c)
      have ld := hlog.d
      have ln := hlog.n
      have hap := Lib.hid (append_any nm Aa (framesL ls).length ca (framesL ls) wr.drew (hd.below (Below.refl _ _).drew) OK.out hs ((ho.bl rfl).below (Below.refl _ _).drew) rfl (ob_ends ho rfl).1 (fun g o e _ c => by have := ((ob_ends ho rfl).2 g o e).1; omega) (by omega))
      have HB := Lib.hid hb
      clear hd hlog ho hb
      go_wp2_with fail
      refine wp_region_tail_lit 9 (by kernel_rfl) (by kernel_rfl) ?_
      simp only [List.take_succ_cons, List.take_zero, List.drop_succ_cons, List.drop_zero]
      repeat (go_big_quiet_step (fail))
      refine wpQuiet_nil ?_
      go_wp2_with fail
      refine hap.out.mono ?_
      rintro e w' ⟨rfl, d', m'⟩
      go_wp2_with fail
      go_ret
      refine ⟨rfl, d'.mono (fun i _ hi => ?_), ((Mv.of_below (fp := F) HB.out.drew).trans m' (fun i hi h => h.1))⟩
      rcases hi with hi | hi
      · exact .inl hi.1
      · have := HB.out.size; right; exact Nat.le_trans this hi
set_option maxRecDepth 100000 in
set_option maxHeartbeats 1000000 in
theorem lReset_any {B db lb : Nat} {F P : Nat → Prop} {p : PD} {nm : ByteArray} (v : Value) (ls : List (List UInt8)) (w : World) (hlog : LogAt w lb db nm) (hlb : ¬ F lb) (h : DkS B db F p w) (ok : p.ok) (hs : nm.size ≤ 1000000) (hL : Lst P w v ls) (htab : Tab w) (hw0 : 0 < w.heap.size)
    (hf : sumC p.cs + (framesL ls).length ≤ 100000) :
    Calls Tryd.prog 23 #[.pointer (some ⟨lb, 0, none⟩), v] w (DkEnd B db F (installP p nm (framesL ls)).1 (.int .i64 (installP p nm (framesL ls)).2) w) := by
  obtain ⟨A, cap, rfl, hcap, hel⟩ := hL.ex
  obtain ⟨n, hn⟩ : ∃ n, ls.length = n := ⟨_, rfl⟩
  have hn1 := cnt_le_frames ls
  have hni : (n : Int) ≤ 100000 := by omega
  have hni0 : (0 : Int) ≤ n := by omega
  have HEL := Lib.hid hel
  have HLOG := Lib.hid hlog
  have HLB := Lib.hid hlb
  have HD := Lib.hid h.tight
  have OK := Lib.hid ok
  have HT := Lib.hid htab
  have HN := Lib.hid hn
  rw [hn]
  clear hL hel hlog hlb h ok htab hn hn1 hcap
  go_enter Tryd.func23, Tryd.ntmps23
  go_wp2_with fail
  go_loopw [5, 12] (fun s t wr => ∃ k : Nat, k ≤ n ∧ t = .int .i64 k ∧ OB wr w.heap.size s (framesL (ls.take k)) ∧ Below w.heap.size w wr) (fun _ t _ => n - (intOf t).toNat)
  case atStart => exact ⟨0, Nat.zero_le _, rfl, ob_nil _ _, Below.refl _ _⟩
  case round =>
    obtain ⟨k, hk, rfl, ho, hb⟩ := hrel
    have hk0 : (0 : Int) ≤ k := by omega
    by_cases hlt : k < n
    · obtain ⟨g, o, rfl, hg, hP, hel⟩ := HEL.out (by have := HN.out; omega)
      have hlk : k < ls.length := by have := HN.out; omega
      obtain ⟨Ak, ck, hc, hbl, hA, -⟩ := (hel k hlk).ex
      have hmem : ls.getD k [] ∈ ls := by rw [List.getD_eq_getElem?_getD, List.getElem?_eq_getElem hlk]; exact List.getElem_mem hlk
      have hll := len_le_frames hmem
      have htk := framesL_take hlk
      have hle := frames_le (ls := ls) (k + 1)
      rw [htk, List.length_append, frameL_len] at hle
      generalize ls.getD k [] = l at hc hbl hA hmem hll htk hle
      obtain ⟨m, hm⟩ : ∃ m, l.length = m := ⟨_, rfl⟩
      rw [hm] at hc hll hle
      have hk1 : (k : Int) < n := by omega
      have hcr : wr.cell? ⟨g, o + k, none⟩ = some (.slice Ak m ck) := (hb.cell (p := ⟨g, o + k, none⟩) hg).trans hc
      have hfr := Lib.hid (frame_any Ak m ck l wr (hbl.below hb) hm (fun e => (hA e).2) (by omega) (HT.out.below hb hw0) (Nat.lt_of_lt_of_le hw0 hb.size))
      obtain ⟨Aa, ca, rfl, -⟩ := ob_shape ho rfl
      have HO := Lib.hid ho
      have HB := Lib.hid hb
      have HTK := Lib.hid htk
      have HLE := Lib.hid hle
      have HMM := Lib.hid hm
      clear hc hbl hA hmem hll htk hle hb ho hm hel hP hg
      go_wp2_with fail
      refine hfr.out.mono ?_
      rintro e w1 ⟨A2, c2, rfl, hb2, be2⟩
      have o1 := HO.out.mv (Mv.of_below (fp := fun _ => False) be2) (fun _ _ c => c)
      have hfl := frameL_len l
      have hbw := HB.out.trans (be2.mono HB.out.size)
      obtain ⟨v', w2, r2, o2, g2, -⟩ := ob_any c2 25 o1 hb2 rfl (fun e => by
        obtain ⟨_, _, e2, _⟩ := hb2.mem (by omega)
        rw [e] at e2; cases e2) (by have := HLE.out; have := HMM.out; omega) hbw.size
      have hbw2 := hbw.grown g2 hbw.size (fun j hj => (ob_lt o1 hj).1)
      rw [← HTK.out] at o2
      have E := Lib.hid (And.intro o2 hbw2)
      clear o1 o2 g2 hbw hbw2 hb2 be2 hfl
      go_wp2_with fail
      go_roundw
      case rel => exact ⟨k + 1, by omega, by go_num, E.out.1, E.out.2⟩
      case measure => simp [intOf]; omega
    · have hkn : k = n := by omega
      rw [show ls.take k = ls by rw [hkn, ← HN.out, List.take_length]] at ho
      obtain ⟨Aa, ca, rfl, -⟩ := ob_shape ho rfl
      have hd := HD.out.below hb
      have hlog := HLOG.out.mv (Mv.of_below (fp := fun _ => False) hb) (fun c => c)
      have ld := hlog.d
      have ln := hlog.n
      have hap := Lib.hid (install_any nm Aa (framesL ls).length ca (framesL ls) wr.drew (hd.below (Below.refl _ _).drew) OK.out hs ((ho.bl rfl).below (Below.refl _ _).drew) rfl (ob_ends ho rfl).1 (fun g o e _ c => by have := ((ob_ends ho rfl).2 g o e).1; omega) (by omega))
      have HB := Lib.hid hb
      clear hd hlog ho hb
      go_wp2_with fail
      refine wp_region_tail_lit 9 (by kernel_rfl) (by kernel_rfl) ?_
      simp only [List.take_succ_cons, List.take_zero, List.drop_succ_cons, List.drop_zero]
      repeat (go_big_quiet_step (fail))
      refine wpQuiet_nil ?_
      go_wp2_with fail
      refine hap.out.mono ?_
      rintro e w' ⟨rfl, d', m'⟩
      go_wp2_with fail
      go_ret
      refine ⟨rfl, d'.mono (fun i _ hi => ?_), ((Mv.of_below (fp := F) HB.out.drew).trans m' (fun i hi h => h.1))⟩
      rcases hi with hi | hi
      · exact .inl hi.1
      · have := HB.out.size; right; exact Nat.le_trans this hi
set_option maxRecDepth 100000 in
theorem lSync_any {B db lb : Nat} {F : Nat → Prop} {p : PD} {nm : ByteArray} (w : World) (hlog : LogAt w lb db nm) (h : DkS B db F p w) (ok : p.ok) (hs : nm.size ≤ 1000000) :
    Calls Tryd.prog 20 #[.pointer (some ⟨lb, 0, none⟩)] w (DkEnd B db F (syncP p nm).1 (.int .i64 (syncP p nm).2) w) := by
  have hap := Lib.hid (sync_any nm w.drew (h.below (Below.refl _ _).drew) ok hs)
  have ld := hlog.d
  have ln := hlog.n
  clear hlog h ok
  go_enter Tryd.func20, Tryd.ntmps20
  go_wp2_with fail
  refine wp_region_tail_lit 8 (by kernel_rfl) (by kernel_rfl) ?_
  simp only [List.take_succ_cons, List.take_zero, List.drop_succ_cons, List.drop_zero]
  repeat (go_big_quiet_step (fail))
  refine wpQuiet_nil ?_
  go_wp2_with fail
  refine hap.out.mono ?_
  rintro e w' ⟨rfl, d', m'⟩
  go_wp2_with fail
  go_ret
  exact ⟨rfl, d'.mono (fun i _ hi => hi), ⟨m'.os, m'.tape, m'.output, m'.size, m'.block⟩⟩

end Go.Proofs.YtldicnhpccionaaDoor
