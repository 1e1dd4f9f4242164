/-
WalMany: at once, or one by one.
-/
import Derived.Test.YtldicnhpccionaaDoorResets
import Derived.Test.YtldicnhpccionaaDoorRfF
import Derived.Deep.RegionHeld3
namespace Go.Proofs.YtldicnhpccionaaDoor
open Go.RowKit
set_option linter.unusedVariables false
set_option linter.unusedSimpArgs false
theorem getC_other {nm nm' : ByteArray} (hne : nm' ≠ nm) (h : List UInt8 × List UInt8 → List UInt8 × List UInt8) (cs : Con) : getC nm' (updC nm h cs) = getC nm' cs := by
  unfold updC
  split
  · unfold getC
    rw [List.find?_map, Option.map_map]
    have : ((fun x : ByteArray × List UInt8 × List UInt8 => decide (x.1 = nm')) ∘ fun x => if x.1 = nm then (x.1, h x.2) else x) = fun x => decide (x.1 = nm') := by
      funext y
      simp only [Function.comp]
      split <;> rfl
    rw [this]
    cases hf : cs.find? (fun x => decide (x.1 = nm')) with
    | none => rfl
    | some y =>
      have h1 := List.find?_some hf
      simp only [decide_eq_true_eq] at h1
      simp only [Option.map_some, Function.comp]
      rw [if_neg (by rw [h1]; exact hne)]
  · unfold getC
    rw [List.find?_append]
    have : List.find? (fun x : ByteArray × List UInt8 × List UInt8 => decide (x.1 = nm')) [(nm, h ([], []))] = none := by
      rw [List.find?_eq_none]
      intro x hx
      rw [List.mem_singleton] at hx
      subst hx
      simp only [decide_eq_true_eq]
      exact fun e => hne e.symm
    rw [this, Option.or_none]
theorem whole_other {nm nm' : ByteArray} (hne : nm' ≠ nm) (h : List UInt8 × List UInt8 → List UInt8 × List UInt8) {p q : PD} (hq : q.cs = updC nm h p.cs) : whole nm' q = whole nm' p := by
  unfold whole cont; rw [hq, getC_other hne]
theorem append_zero (nm : ByteArray) (b : List UInt8) (p : PD) (hd : p.down = false) (hf : p.fuse = 0) :
    (appendP p nm b).2 = 0 ∧ (appendP p nm b).1.down = false ∧ (appendP p nm b).1.fuse = 0 ∧ whole nm (appendP p nm b).1 = whole nm p ++ b ∧ ∀ nm', nm' ≠ nm → whole nm' (appendP p nm b).1 = whole nm' p := by
  have e : appendP p nm b = ({ p.tick with cs := updC nm (fun x => (x.1, x.2 ++ b)) p.cs }, 0) := by
    unfold appendP; rw [if_neg (by rw [hd]; decide), if_neg (by rw [hf]; decide)]
  rw [e]
  refine ⟨rfl, hd, tick_zero hf, ?_, fun nm' hne => whole_other (p := p) hne (fun x => (x.1, x.2 ++ b)) rfl⟩
  unfold whole
  rw [cont_upd nm (fun x => (x.1, x.2 ++ b)) p _ rfl, List.append_assoc]
theorem install_zero (nm : ByteArray) (b : List UInt8) (p : PD) (hd : p.down = false) (hf : p.fuse = 0) :
    (installP p nm b).2 = 0 ∧ (installP p nm b).1.down = false ∧ (installP p nm b).1.fuse = 0 ∧ whole nm (installP p nm b).1 = b ∧ ∀ nm', nm' ≠ nm → whole nm' (installP p nm b).1 = whole nm' p := by
  have e : installP p nm b = ({ p.tick with cs := updC nm (fun _ => (b, [])) p.cs }, 0) := by
    unfold installP; rw [if_neg (by rw [hd]; decide), if_neg (by rw [hf]; decide)]
  rw [e]
  refine ⟨rfl, hd, tick_zero hf, ?_, fun nm' hne => whole_other (p := p) hne (fun _ => (b, [])) rfl⟩
  unfold whole
  rw [cont_upd nm (fun _ => (b, [])) p _ rfl, List.append_nil]
/-- a first opening: there is no file -/
theorem open_new {W w : World} {db : Nat} {F : Nat → Prop} (nm : ByteArray) (h : Law W db F newP w) (hnm : nm.size ≤ 1000000) (htab : Tab W) (hw0 : 0 < W.heap.size) :
    Calls Tryd.prog 15 #[.pointer (some ⟨db, 0, none⟩), .string nm] w fun e w' => ∃ F' lb vo, e = .returned (.tuple #[.pointer (some ⟨lb, 0, none⟩), vo, .int .i64 0]) ∧ Law W db F' newP w' ∧ LogS w' lb db nm F' ∧ Mv F w w' ∧ ∀ i, F' i → orNew F w i := by
  refine (open_any nm w h.dk newP_fit (by omega) (by omega) (by omega) hnm (h.tab htab hw0) (h.pos hw0)).mono ?_
  rintro e w' ⟨outs, m, F', hr, d, hF, mv, hcase⟩
  rw [newP_open] at d hcase
  rcases hcase with ⟨-, lb, vo, rfl, hlog, hnl, -⟩ | ⟨hc, -⟩
  · exact ⟨F', lb, vo, rfl, h.opened d hF mv, ⟨hlog, hnl⟩, mv, hF⟩
  · cases hc
/-- a reading where the power stays -/
theorem read_law {W w : World} {db : Nat} {F : Nat → Prop} {p : PD} {a s l : Nat} (nm : ByteArray) (h : Law W db F p w) (ft : p.fit a s l) (ha : a ≤ 10000) (hs : s ≤ 100000) (hl : l ≤ 10000) (hnm : nm.size ≤ 1000000) (hd : p.down = false) :
    Calls Tryd.prog 24 #[.pointer (some ⟨db, 0, none⟩), .string nm] w fun e w' => ∃ v c, e = .returned (.tuple #[v, .int .i64 c]) ∧ OB w' w.heap.size v (whole nm p) ∧ Below w.heap.size w w' := by
  refine (read_S nm w h.dk (ft.ok (by omega) (by omega) (by omega)) hnm).mono ?_
  rintro e w' ⟨b, ⟨hd2, -⟩ | ⟨-, hg, rfl⟩ | ⟨-, x, v, hg, rfl, o⟩⟩
  · rw [hd] at hd2; cases hd2
  · have hw : whole nm p = [] := by unfold whole cont; rw [hg]; rfl
    rw [hw]
    exact ⟨_, _, rfl, ob_nil _ _, b⟩
  · have hw : whole nm p = x.1 ++ x.2 := by unfold whole cont; rw [hg]; rfl
    rw [hw]
    exact ⟨_, _, rfl, o, b⟩
def nmA : ByteArray := ⟨#[97]⟩
def nmB : ByteArray := ⟨#[98]⟩
def nmC : ByteArray := ⟨#[99]⟩
theorem nmAB : nmA ≠ nmB := by decide
theorem nmCB : nmC ≠ nmB := by decide
theorem nmAC : nmA ≠ nmC := by decide
theorem nmBA : nmB ≠ nmA := by decide
theorem nmBC : nmB ≠ nmC := by decide
theorem nmCA : nmC ≠ nmA := by decide
/-- what is kept while the second log grows -/
structure ManyR (ls : List (List UInt8)) (W : World) (db lb : Nat) (F : Nat → Prop) (p : PD) (k : Nat) (w : World) : Prop where
  law : Law W db F p w
  log : LogS w lb db nmB F
  fit : p.fit (k + 2) (2 * (framesL ls).length + (framesL (ls.take k)).length) (k + 2)
  up : p.down = false
  fz : p.fuse = 0
  ca : whole nmA p = framesL ls
  cb : whole nmB p = framesL (ls.take k)
  cc : whole nmC p = framesL ls
set_option maxRecDepth 100000 in
set_option maxHeartbeats 1000000 in
theorem many_walk (W : World) (v : Value) (ls : List (List UInt8)) (htab : Tab W) (h0 : 0 < W.heap.size) (hL : Lst (fun i => i < W.heap.size) W v ls) (hls : ls.length ≤ 140737488355328) (hll : ∀ l ∈ ls, l.length ≤ 140737488355328) :
    Calls Tryd.prog 5 #[v] W fun e w' => e = .returned (.bool true) ∧ Below W.heap.size W w' := by
  obtain ⟨A, cap, rfl, hcap, hel⟩ := hL.ex
  have HT := Lib.hid htab
  have hal := Lib.hid (alive_any W htab h0)
  have HLS := Lib.hid hL
  have HEL := Lib.hid hel
  have HLL := Lib.hid (And.intro hls hll)
  clear htab hL hcap hel hll hls
  go_enter Tryd.func5, Tryd.ntmps5
  go_wp2_with fail
  refine hal.out.mono ?_
  rintro e w1 ⟨rfl, hb1⟩
  have HB1 := Lib.hid hb1
  clear hal hb1
  go_wp2_with fail
  have hbw := HB1.out
  have hgr := Lib.hid (great_any _ _ _ (calls_one (HLS.out.below hbw)) (by simp) (fun c hc => by
    simp only [List.mem_cons, List.not_mem_nil, or_false] at hc
    rcases hc with rfl
    exact ⟨by simp, HLL.out.1, HLL.out.2⟩))
  clear hbw
  refine hgr.out.mono ?_
  rintro e w2 ⟨b, rfl, hb2, hsm⟩
  have HB2 := Lib.hid (HB1.out.trans (((alloc_below w1 _).trans (hb2.mono (by simp))).mono HB1.out.size))
  have HSM := Lib.hid hsm
  clear hgr hb2 hsm
  cases b with
  | true =>
    go_wp2_with fail
    go_ret
    exact ⟨rfl, HB2.out⟩
  | false =>
    have hs := HSM.out rfl
    obtain ⟨-, hs1, hs2⟩ := hs
    have hls20 : ls.length ≤ 20 := hs2 ⟨0, 0, 0, ls, []⟩ (by simp)
    have htot : (framesL ls).length ≤ 9000 := (small_one hs1 hls20).1
    have HLE := Lib.hid (small_one hs1 hls20).2
    have HTOT := Lib.hid htot
    have HN20 := Lib.hid hls20
    have hnew := Lib.hid (new_any w2)
    clear hs1 hs2 HSM HLL
    go_wp2_with fail
    refine hnew.out.mono ?_
    rintro e w3 ⟨db, rfl, hdb, d3, b3⟩
    have L3 : Law w2 db (fun i => w2.heap.size ≤ i) newP w3 := ⟨d3, fun i h => h, b3⟩
    have HT2 := Lib.hid (HT.out.below HB2.out h0)
    have hw2 : 0 < w2.heap.size := Nat.lt_of_lt_of_le h0 HB2.out.size
    have hop := Lib.hid (open_new nmA L3 (by decide) HT2.out hw2)
    clear hnew d3 b3 L3
    go_wp2_with fail
    refine hop.out.mono ?_
    rintro e w4 ⟨F4, la, va, rfl, L4, GA4, -, -⟩
    have hop2 := Lib.hid (open_new nmB L4 (by decide) HT2.out hw2)
    have HG4 := Lib.hid GA4
    clear hop L4 GA4
    go_wp2_with fail
    refine hop2.out.mono ?_
    rintro e w5 ⟨F5, lb, vb, rfl, L5, GB5, m5, i5⟩
    have hop3 := Lib.hid (open_new nmC L5 (by decide) HT2.out hw2)
    have HG5 := Lib.hid (And.intro (HG4.out.opened m5 i5) GB5)
    clear hop2 L5 GB5 m5 i5
    go_wp2_with fail
    refine hop3.out.mono ?_
    rintro e w6 ⟨F6, lc, vc, rfl, L6, GC6, m6, i6⟩
    have HG6 := Lib.hid (And.intro (HG5.out.2.opened m6 i6) GC6)
    have hap := Lib.hid (lAppend_law _ _ L6 (HG5.out.1.opened m6 i6) newP_fit (by omega) (by omega) (by decide) (HLS.out.below (HB2.out.trans (L6.bel.mono HB2.out.size))) HT2.out hw2 (by omega))
    obtain ⟨k0, k1, k2, k3, k4⟩ := append_zero nmA (framesL ls) newP rfl rfl
    have k5 := k4 nmB nmBA
    have k6 := k4 nmC nmCA
    have e1 : ∀ nm, whole nm newP = [] := fun _ => rfl
    rw [e1] at k3 k5 k6
    rw [List.nil_append] at k3
    rw [k0] at hap
    generalize (appendP newP nmA (framesL ls)).1 = p7 at hap k1 k2 k3 k5 k6
    clear hop3 L6 GC6 m6 i6 k0 k4 e1 HG5 HG4
    go_wp2_with fail
    refine hap.out.mono ?_
    rintro e w7 ⟨rfl, L7, -, ft7, m7⟩
    have hre := Lib.hid (lReset_law _ _ L7 (HG6.out.2.step m7) ft7 (by omega) (by omega) (by decide) (HLS.out.below (HB2.out.trans (L7.bel.mono HB2.out.size))) HT2.out hw2 (by omega))
    have HG7 := Lib.hid (HG6.out.1.step m7)
    obtain ⟨q0, q1, q2, q3, q4⟩ := install_zero nmC (framesL ls) p7 k1 k2
    have q5 := q4 nmB nmBC
    have q6 := q4 nmA nmAC
    rw [k5] at q5
    rw [k3] at q6
    rw [q0] at hre
    generalize (installP p7 nmC (framesL ls)).1 = p8 at hre q1 q2 q3 q5 q6
    clear hap L7 ft7 m7 k1 k2 k3 k5 k6 q0 q4 HG6
    go_wp2_with fail
    refine hre.out.mono ?_
    rintro e w8 ⟨rfl, L8, -, ft8, m8⟩
    have hR : ManyR ls w2 db lb _ p8 0 w8 := ⟨L8, HG7.out.step m8, ft8.mono (by omega) (by omega) (by omega), q1, q2, q6, q5, q3⟩
    have HR := Lib.hid hR
    obtain ⟨n, hn⟩ : ∃ n, ls.length = n := ⟨_, rfl⟩
    have hni : (n : Int) ≤ 20 := by omega
    have hni0 : (0 : Int) ≤ n := by omega
    have HN := Lib.hid hn
    rw [hn]
    clear hre L8 ft8 m8 q1 q2 q3 q5 q6 HG7 hR hn hls20 htot
    go_wp2_with fail
    go_loopw [70] (fun t wr => ∃ (k : Nat) (F : Nat → Prop) (p : PD), k ≤ n ∧ t = .int .i64 k ∧ ManyR ls w2 db lb F p k wr) (fun t _ => n - (intOf t).toNat)
    case atStart => exact ⟨0, _, p8, Nat.zero_le _, rfl, HR.out⟩
    case round =>
      obtain ⟨k, F, p, hk, rfl, hR⟩ := hrel
      have HR := Lib.hid hR
      clear hR
      have hk0 : (0 : Int) ≤ k := by omega
      by_cases hlt : k < n
      · obtain ⟨g, o, rfl, hg, hP, hel⟩ := HEL.out (by have := HN.out; omega)
        have hlk : k < ls.length := by have := HN.out; omega
        obtain ⟨Ak, ck, hc, hbl, hA, -⟩ := (hel k hlk).ex
        have htk := framesL_take hlk
        have hle := frames_le (ls := ls) (k + 1)
        rw [htk, List.length_append, ← frames_one] at hle
        have hbw := HB2.out.trans (HR.out.law.bel.mono HB2.out.size)
        have hcr : wr.cell? ⟨g, o + k, none⟩ = some (.slice Ak (ls.getD k []).length ck) := (hbw.cell (p := ⟨g, o + k, none⟩) hg).trans hc
        have hba := alloc_below wr (.cells #[.slice Ak (ls.getD k []).length ck] 22)
        have hba := alloc_below wr (.cells #[.slice Ak (ls.getD k []).length ck] 25)
        have hap := lAppend_law _ _ (HR.out.law.below hba) (HR.out.log.below hba) HR.out.fit (by omega) (by omega) (by decide) (one_rec wr (hbl.below hbw) rfl hA) HT2.out hw2 (by have := HTOT.out; omega)
        obtain ⟨k0, k1, k2, k3, k4⟩ := append_zero nmB (framesL [ls.getD k []]) p HR.out.up HR.out.fz
        have k5 := k4 nmA nmAB
        have k6 := k4 nmC nmCB
        rw [HR.out.ca] at k5
        rw [HR.out.cc] at k6
        have hcb := HR.out.cb
        rw [hcb] at k3
        have k3' : whole nmB (appendP p nmB (framesL [ls.getD k []])).1 = framesL (ls.take (k + 1)) := k3.trans (by rw [htk, frames_one])
        replace k3 := k3'
        clear k3' hcb
        rw [k0] at hap
        have HLE := Lib.hid hle
        have HTK := Lib.hid htk
        generalize (appendP p nmB (framesL [ls.getD k []])).1 = p5 at hap k1 k2 k3 k5 k6
        generalize ls.getD k [] = l at hcr hap HLE HTK
        obtain ⟨q, hq⟩ : ∃ q, l.length = q := ⟨_, rfl⟩
        rw [hq] at hcr hap
        have HAP := Lib.hid hap
        have HK := Lib.hid (And.intro k1 (And.intro k2 (And.intro k3 (And.intro k5 k6))))
        have hk1 : (k : Int) < n := by omega
        clear hc hbl hA htk hle hel hP hbw hba hq hap k0 k1 k2 k3 k4 k5 k6
        go_wp2_with fail
        refine HAP.out.mono ?_
        rintro e w9 ⟨rfl, L9, G9, ft9, -⟩
        have hR9 : ManyR ls w2 db lb _ p5 (k + 1) w9 := ⟨L9, G9, ft9.mono (by omega) (by rw [HTK.out, List.length_append, ← frames_one]; omega) (by omega), HK.out.1, HK.out.2.1, HK.out.2.2.2.1, HK.out.2.2.1, HK.out.2.2.2.2⟩
        have HR9 := Lib.hid hR9
        clear hR9 L9 G9 ft9
        go_wp2_with fail
        go_roundw
        case rel => exact ⟨k + 1, _, p5, by omega, by go_num, HR9.out⟩
        case measure => simp [intOf]; omega
      · have hkn : k = n := by omega
        have hk1 : ¬ (k : Int) < n := by omega
        have hcb := HR.out.cb
        rw [show ls.take k = ls by rw [hkn, ← HN.out, List.take_length]] at hcb
        have hf2 : (framesL (ls.take k)).length ≤ 9000 := by have := frames_le (ls := ls) k; have := HTOT.out; omega
        have hr1 := Lib.hid (read_law nmA HR.out.law HR.out.fit (by omega) (by have := HTOT.out; omega) (by omega) (by decide) HR.out.up)
        rw [HR.out.ca] at hr1
        have HCB := Lib.hid hcb
        clear hcb
        go_wp2_with fail
        refine hr1.out.mono ?_
        rintro e w10 ⟨v1, c1, rfl, o1, b1⟩
        have hr2 := Lib.hid (read_law nmB (HR.out.law.below b1) HR.out.fit (by omega) (by have := HTOT.out; omega) (by omega) (by decide) HR.out.up)
        rw [HCB.out] at hr2
        have HO1 := Lib.hid (And.intro o1 b1)
        clear hr1 o1 b1
        go_wp2_with fail
        refine hr2.out.mono ?_
        rintro e w11 ⟨v2, c2, rfl, o2, b2⟩
        have hr3 := Lib.hid (read_law nmC ((HR.out.law.below HO1.out.2).below b2) HR.out.fit (by omega) (by have := HTOT.out; omega) (by omega) (by decide) HR.out.up)
        rw [HR.out.cc] at hr3
        have HO2 := Lib.hid (And.intro (And.intro (HO1.out.1.mv (Mv.of_below (fp := fun _ => False) b2) (fun _ _ c => c)) o2) (HO1.out.2.trans (b2.mono HO1.out.2.size)))
        clear hr2 o2 b2 HO1
        go_wp2_with fail
        refine hr3.out.mono ?_
        rintro e w12 ⟨v3, c3, rfl, o3, b3⟩
        have HO3 := Lib.hid (And.intro (HO2.out.1.1.mv (Mv.of_below (fp := fun _ => False) b3) (fun _ _ c => c)) (And.intro (HO2.out.1.2.mv (Mv.of_below (fp := fun _ => False) b3) (fun _ _ c => c)) (And.intro o3 (HO2.out.2.trans (b3.mono HO2.out.2.size)))))
        clear hr3 o3 b3 HO2
        have hlaw := Lib.hid (HR.out.law.below HO3.out.2.2.2)
        obtain ⟨A1, ca1, rfl, -⟩ := ob_shape HO3.out.1 rfl
        obtain ⟨A2, ca2, rfl, -⟩ := ob_shape HO3.out.2.1 rfl
        obtain ⟨A3, ca3, rfl, -⟩ := ob_shape HO3.out.2.2.1 rfl
        obtain ⟨z, hz⟩ : ∃ z, (framesL ls).length = z := ⟨_, rfl⟩
        obtain ⟨t, ht⟩ : ∃ t, tx (framesL ls) = t := ⟨_, rfl⟩
        have hcv : ∀ (B : Nat) (A : Option Addr) (c : Nat), OB w12 B (.slice A (framesL ls).length c) (framesL ls) → ∀ (w' : World), Below w12.heap.size w12 w' → (convert 25 9 (.slice A z c)).run Tryd.prog w' = .ok (.string t) w' := fun B A c o w' hb => by
          rw [← hz, ← ht]
          exact conv_bytes ((o.bl rfl).below hb) (fun e => ((ob_ends o rfl).1 e).2) c
        have hcv1 := hcv _ A1 ca1 HO3.out.1
        have hcv2 := hcv _ A2 ca2 HO3.out.2.1
        have hcv3 := hcv _ A3 ca3 HO3.out.2.2.1
        have htx : ∀ (w' : World), Below w12.heap.size w12 w' → Calls Tryd.prog 11 #[.slice A n cap] w' fun e w2 => ∃ v, e = .returned v ∧ Strs (fun i => w12.heap.size ≤ i) w2 v (ls.map tx) ∧ Below w12.heap.size w12 w2 := fun w' hb => by
          have h1 := HLS.out.below (HB2.out.trans ((hlaw.out.below hb).bel.mono HB2.out.size))
          rw [HN.out] at h1
          refine (texts_any _ _ w' h1 (by have := HN20.out; omega)).mono ?_
          rintro e w2 ⟨v, rfl, ot, b⟩
          exact ⟨v, rfl, ot.strs.mv (Mv.refl (fun _ => False) _) (fun i _ hi => ⟨fun c => c, Nat.le_trans hb.size hi⟩), hb.trans (b.mono hb.size)⟩
        have hfr : ∀ (w' : World) (v : Value), Below w12.heap.size w12 w' → Strs (fun i => w12.heap.size ≤ i) w' v (ls.map tx) → Calls Tryd.prog 10 #[v] w' fun e w2 => e = .returned (.string t) ∧ Below w12.heap.size w12 w2 := fun w' v hb hs => (rframes_any v ls w' hs (by have := HTOT.out; omega)).mono fun e w2 h => ⟨by rw [← ht]; exact h.1, hb.trans (h.2.mono hb.size)⟩
        have hfin := Lib.hid (HB2.out.trans (hlaw.out.bel.mono HB2.out.size))
        have hbr : Below w12.heap.size w12 w12.drew := (Below.refl _ _).drew
        rw [hz]
        clear hcv hz ht HO3
        go_wp2_with fail
        go_region_held3 (fun w' => Below w12.heap.size w12 w') (assumption) (first | (go_at_call 11; refine (htx _ (by assumption)).mono ?_; rintro e w13 ⟨vt, rfl, hst, hb13⟩) | (go_at_call 10; refine (hfr _ _ (by assumption) (by assumption)).mono ?_; rintro e w14 ⟨rfl, hb14⟩))
        go_wp2_with fail
        go_ret
        exact ⟨rfl, hfin.out.trans (hb14.mono hfin.out.size)⟩
end Go.Proofs.YtldicnhpccionaaDoor
