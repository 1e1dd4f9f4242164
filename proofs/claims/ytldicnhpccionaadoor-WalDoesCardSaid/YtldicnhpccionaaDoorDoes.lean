/-
WalDoes: every script is played as the document says.
-/
import Derived.Test.YtldicnhpccionaaDoorTwb
namespace Go.Proofs.YtldicnhpccionaaDoor
open Go.RowKit
set_option linter.unusedVariables false
set_option linter.unusedSimpArgs false
theorem gotL_len {p : PD} {outs : List (List UInt8)} {m : Nat} {a s l : Nat} (h : FileRecs nmLog p.cs outs m) (ft : p.fit a s l) (hs : s ≤ 100000) (c : Int) : (gotL c outs).length ≤ 100000 := by
  have h1 : outs.length ≤ 100000 := by
    rcases h with ⟨-, rfl⟩ | ⟨x, hg, hr⟩
    · simp
    · have h2 := recs_count hr
      have h3 := hr.len
      have h4 := sumC_le_of_get hg
      have h5 := ft.sum
      rw [List.length_append] at h3
      unfold lenP at h4
      omega
  unfold gotL
  split
  · exact h1
  · simp
def mRow : Obj := .cells #[.slice none 0 0, .bool false, .int .i64 0, .int .i64 0, .int .i64 0] 57
theorem do_new {W w : World} {db : Nat} (L : Law W db (fun i => W.heap.size ≤ i) newP w) (h0 : 0 < W.heap.size) : ∃ ko, Do W db w.heap.size newP newP (.pointer none, 0, ko) (w.alloc mRow) := by
  have b := alloc_below w mRow
  have hm : (w.alloc mRow).heap[w.heap.size]? = some (.cells #[.slice none 0 0, .bool false, .int .i64 0, .int .i64 0, .int .i64 0] 57 (0, 0)) := heap_alloc_new _ _
  have hs : (w.alloc mRow).heap.size = w.heap.size + 1 := by simp
  have h0w := Nat.lt_of_lt_of_le h0 L.bel.size
  refine ⟨w.heap[0]'h0w, tight (fun i => W.heap.size ≤ i) w, (· = w.heap.size), ⟨⟨(L.dk.mono (fun i hi hF => ⟨hF, hi⟩)).below b, fun i hi => hi.1, L.bel.trans (b.mono L.bel.size)⟩, ⟨⟨.slice none 0 0, ⟨hm, rfl⟩, fun i hi => hi.elim id (fun c => by cases c)⟩⟩, fun i hi c => by have := hi.2; omega, fun i hi => by have := hi.2; omega, fun i hi => by rw [hi, hs]; omega, fun i hi => by rw [hi]; exact L.bel.size⟩, .inl rfl, (b.block 0 h0w).trans (Array.getElem?_eq_getElem h0w), fun c => absurd (show W.heap.size ≤ 0 from c.1) (by omega), fun c => absurd (show 0 = w.heap.size from c) (by omega)⟩
theorem PD.fit.acts' {p : PD} {a s l a' s' l' : Nat} (h : p.fit a s l) (h1 : a ≤ a') (h2 : s ≤ s') (h3 : l ≤ l') : p.fit a' s' l' := h.mono h1 h2 h3
/-- what is kept from call to call -/
structure DoR (W : World) (db mb : Nat) (cs : List CallR) (k : Nat) (lv : Value) (w : World) : Prop where
  ex : ∃ p kb ko, Do W db mb p p (lv, kb, ko) w ∧ p.fit (2 * k + 4) (8192 + callsSize (cs.take k) + 240 * k) (2 * k + 4)
theorem callsSize_le (cs : List CallR) (k : Nat) : callsSize (cs.take k) ≤ callsSize cs := by
  have e : callsSize cs = callsSize (cs.take k) + callsSize (cs.drop k) := by
    unfold callsSize
    rw [← List.sum_append, ← List.map_append, List.take_append_drop]
  omega
theorem DoR.log {W w : World} {db mb k : Nat} {cs : List CallR} {lv : Value} (h : DoR W db mb cs k lv w) : lv = .pointer none ∨ ∃ lb, lv = .pointer (some ⟨lb, 0, none⟩) := by
  obtain ⟨p, kb, ko, ⟨F, G, t, hv⟩, -⟩ := h.ex
  rcases hv.1 with h | ⟨lb, h, -⟩
  · exact .inl h
  · exact .inr ⟨lb, h⟩
theorem DoR.below {W w w' : World} {db mb k : Nat} {cs : List CallR} {lv : Value} (h : DoR W db mb cs k lv w) (b : Below w.heap.size w w') : DoR W db mb cs k lv w' := by
  obtain ⟨p, kb, ko, D, ft⟩ := h.ex
  exact ⟨⟨p, kb, ko, D.below b, ft⟩⟩
set_option maxRecDepth 100000 in
set_option maxHeartbeats 40000000 in
theorem does_walk (W : World) (A : Option Addr) (z c0 : Nat) (vs : Value) (raw : List UInt8) (cs : List CallR) (htab : Tab W) (h0 : 0 < W.heap.size) (hB : BL W A raw) (hz : raw.length = z) (hz2 : z ≤ 140737488355328) (hA : A = none → c0 = 0 ∧ raw = []) (hAW : ∀ b o, A = some ⟨b, o, none⟩ → 0 < raw.length → b < W.heap.size)
    (hC : CallsL (fun i => i < W.heap.size) W vs cs) (hcl : cs.length ≤ 140737488355328) (hcb : ∀ c ∈ cs, c.b.length ≤ 140737488355328 ∧ c.ls.length ≤ 140737488355328 ∧ ∀ l ∈ c.ls, l.length ≤ 140737488355328)
    (hck : ∀ c ∈ cs, c.n ≤ 9223372036854775807) :
    Calls Tryd.prog 7 #[.slice A z c0, vs] W fun e w' => e = .returned (.bool true) ∧ Below W.heap.size W w' := by
  obtain ⟨As, caps, rfl, hel⟩ := hC.ex
  have HT := Lib.hid htab
  have hal := Lib.hid (alive_any W htab h0)
  have HC := Lib.hid hC
  have HEL := Lib.hid hel
  have HRAW := Lib.hid (And.intro hB (And.intro hz (And.intro hA hAW)))
  have HCB := Lib.hid (And.intro hcl (And.intro hcb hck))
  have hzi : (z : Int) ≤ 140737488355328 := by omega
  have hzi0 : (0 : Int) ≤ z := by omega
  clear htab hC hel hB hz hA hAW hcl hcb hck
  go_enter Tryd.func7, Tryd.ntmps7
  go_wp2_with fail
  refine hal.out.mono ?_
  rintro e w1 ⟨rfl, hb1⟩
  have HB1 := Lib.hid hb1
  clear hal hb1
  have hgr := Lib.hid (great_any _ _ w1 (HC.out.below HB1.out) HCB.out.1 HCB.out.2.1)
  go_wp2_with fail
  refine hgr.out.mono ?_
  rintro e w2 ⟨b, rfl, hb2, hsm⟩
  have HB2 := Lib.hid (HB1.out.trans (hb2.mono HB1.out.size))
  have HSM := Lib.hid hsm
  clear hgr hb2 hsm
  cases b with
  | true =>
    go_wp2_with fail
    go_ret
    exact ⟨rfl, HB2.out⟩
  | false =>
    by_cases hbig : 8192 < z
    · have hbi : (8192 : Int) < z := by omega
      go_wp2_with fail
      go_ret
      exact ⟨rfl, HB2.out⟩
    · have hbi : ¬ (8192 : Int) < z := by omega
      have hnew := Lib.hid (new_any w2)
      go_wp2_with fail
      refine hnew.out.mono ?_
      rintro e w3 ⟨db, rfl, hdb, d3, b3⟩
      have L3 : Law w2 db (fun i => w2.heap.size ≤ i) newP w3 := ⟨d3, fun i h => h, b3⟩
      have HT2 := Lib.hid (HT.out.below HB2.out h0)
      have hw2 : 0 < w2.heap.size := Nat.lt_of_lt_of_le h0 HB2.out.size
      obtain ⟨ko, D4⟩ := do_new L3 hw2
      have hblw : ∀ (w : World), Below w2.heap.size w2 w → BL w A raw := fun w hb => HRAW.out.1.below (HB2.out.trans (hb.mono HB2.out.size))
      have HBLW := Lib.hid hblw
      have hap := do_append A z c0 raw D4 newP_fit (by omega) (by omega) (by omega) (hblw _ D4.bel) HRAW.out.2.1 HRAW.out.2.2.1 (fun g o e h => Nat.lt_of_lt_of_le (HRAW.out.2.2.2 g o e h) HB2.out.size)
      have HAP := Lib.hid hap
      have hft := newP_fit.append nmLog raw (by decide)
      rw [HRAW.out.2.1] at hft
      have HFT := Lib.hid (hft.acts' (a' := 1) (s' := 8192) (l' := 1) (by omega) (by omega) (by omega))
      obtain ⟨mb, hmb⟩ : ∃ mb, w3.heap.size = mb := ⟨_, rfl⟩
      unfold mRow at HAP
      clear hnew d3 b3 L3 D4 hblw hap hft
      rw [hmb] at HAP
      go_wp2_with fail
      refine HAP.out.mono ?_
      rintro e w5 ⟨he, D5⟩
      subst he
      have hcv := conv_bytes (HBLW.out w5 D5.bel) (fun e => (HRAW.out.2.2.1 e).2) c0
      rw [HRAW.out.2.1] at hcv
      replace hcv : (convert 25 9 (.slice A z c0)).run Tryd.prog w5 = .ok (.string (tx raw)) w5 := hcv
      have HRA := Lib.hid (do_rAppend raw D5 newP_fit (by omega) (by omega) (by rw [HRAW.out.2.1]; omega))
      obtain ⟨p1, hp1⟩ : ∃ p1, (appendP newP nmLog raw).1 = p1 := ⟨_, rfl⟩
      rw [hp1] at HRA HFT
      obtain ⟨tr, htr⟩ : ∃ t, tx raw = t := ⟨_, rfl⟩
      rw [htr] at hcv HRA
      clear D5 HAP hp1 htr
      go_wp2_with fail
      refine HRA.out.mono ?_
      rintro e w6 ⟨he, D6⟩
      subst he
      have HOP := Lib.hid (do_open D6 HFT.out (by omega) (by omega) (by omega) HT2.out hw2)
      have HND := Lib.hid D6.nd
      clear D6 HRA hcv
      go_wp2_with fail
      refine HOP.out.mono ?_
      rintro e w7 ⟨outs, m, vo, lv, F7, G7, hr7, rfl, T7, V7, l7⟩
      have HRO := Lib.hid (do_rOpen T7 V7 l7 HFT.out (by omega) (by omega) (by omega) HND.out)
      have HR7 := Lib.hid hr7
      have HFT2 := Lib.hid (HFT.out.opened nmLog m HND.out)
      clear HOP hr7 T7 V7 l7
      go_wp2_with fail
      refine HRO.out.mono ?_
      rintro e w8 ⟨outs2, m2, vo2, hr8, rfl, D8, l8, s8⟩
      obtain ⟨rfl, hop⟩ := fileRecs_det HR7.out hr8
      rw [← hop] at D8 s8 ⊢
      obtain ⟨p2, hp2⟩ : ∃ p2, (openP p1 nmLog m).1 = p2 := ⟨_, rfl⟩
      rw [hp2] at D8 HFT2
      obtain ⟨c8, hc8⟩ : ∃ c, (openP p1 nmLog m).2 = c := ⟨_, rfl⟩
      rw [hc8] at l8 s8 ⊢
      obtain ⟨gl, hgl⟩ : ∃ gl, gotL c8 outs = gl := ⟨_, rfl⟩
      rw [hgl] at l8 s8
      have hgl2 : gl.length ≤ 100000 := by rw [← hgl]; exact gotL_len HR7.out HFT.out (by omega) c8
      have HSM2 := Lib.hid (same_any _ _ gl (gl.map tx) w8 l8 s8 hgl2 (by rw [List.length_map]; exact hgl2))
      have HD8 := Lib.hid D8
      clear HRO hr8 D8 l8 s8 hop hp2 hc8 hgl hgl2
      go_wp2_with fail
      refine HSM2.out.mono ?_
      rintro e w9 ⟨b, rfl, hb, b9⟩
      have hbt : b = true := hb.2 rfl
      subst hbt
      have hR : DoR w2 db mb cs 0 lv w9 := ⟨⟨p2, _, _, HD8.out.below b9, HFT2.out.acts' (by omega) (by omega) (by omega)⟩⟩
      have HR := Lib.hid hR
      obtain ⟨n, hn⟩ : ∃ n, cs.length = n := ⟨_, rfl⟩
      have hsm := HSM.out trivial
      have hni : (n : Int) ≤ 40 := by omega
      have hni0 : (0 : Int) ≤ n := by omega
      have HN := Lib.hid hn
      have HSZ := Lib.hid hsm
      rw [hn]
      clear HSM2 hb b9 hR hn hsm HD8 HFT2 HFT HND HR7
      go_wp2_with fail
      go_loopw [7, 64] (fun lv t wr => ∃ k : Nat, k ≤ n ∧ t = .int .i64 k ∧ DoR w2 db mb cs k lv wr) (fun _ t _ => n - (intOf t).toNat)
      case atStart => exact ⟨0, Nat.zero_le _, rfl, HR.out⟩
      case round =>
        obtain ⟨k, hk, rfl, hRk⟩ := hrel
        have hk0 : (0 : Int) ≤ k := by omega
        obtain ⟨p, kb, ko, D, ft⟩ := hRk.ex
        by_cases hlt : k < n
        · obtain ⟨g, o, rfl, hg, hP, hel⟩ := HEL.out (by have := HN.out; omega)
          have hlk : k < cs.length := by have := HN.out; omega
          have hbw := HB2.out.trans (D.bel.mono HB2.out.size)
          have hca := hel k hlk
          have hmem : cs.getD k default ∈ cs := by rw [List.getD_eq_getElem?_getD, List.getElem?_eq_getElem hlk]; exact List.getElem_mem hlk
          have htk := callsSize_take hlk
          have hcl2 := callsSize_le cs (k + 1)
          have h20 := HSZ.out.2.2 _ hmem
          have hnn := HCB.out.2.2 _ hmem
          have hsm2 := HSZ.out.2.1
          obtain ⟨vL, Ab, cb, hrow, hlst, hbl, hAb, hPb⟩ := hca.ex
          generalize cs.getD k default = c at hmem htk h20 hnn hrow hlst hbl hAb hPb
          obtain ⟨q, hq⟩ : ∃ q, c.b.length = q := ⟨_, rfl⟩
          obtain ⟨κ, hκ⟩ : ∃ x, c.kind = x := ⟨_, rfl⟩
          obtain ⟨N, hNN⟩ : ∃ x, c.n = x := ⟨_, rfl⟩
          obtain ⟨K, hKK⟩ : ∃ x, c.k = x := ⟨_, rfl⟩
          replace hrow := (rowAt_below hbw hg (o + k * 5) 5).trans hrow
          rw [hq, hκ, hNN, hKK] at hrow
          rw [hNN] at hnn
          have D1 := D.keep #[.int .i64 κ, vL, .int .i64 N, .int .i64 K, .slice Ab q cb] 27
          have hfl := frames_lens (ls := c.ls)
          have hbnd : 8192 + callsSize (cs.take k) + 240 * k + c.b.length + (framesL c.ls).length ≤ 8192 + callsSize (cs.take (k + 1)) + 240 * (k + 1) := by omega
          have hbnd2 : 8192 + callsSize (cs.take (k + 1)) + 240 * (k + 1) ≤ 30000 := by omega
          have hsz : SizeIs #[.int .i64 κ, vL, .int .i64 N, .int .i64 K, .slice Ab q cb] 5 := rfl
          have hone : oneCells #[.int .i64 κ, vL, .int .i64 N, .int .i64 K, .slice Ab q cb] = true := by
            obtain ⟨AL, capL, rfl, -⟩ := hlst.ex
            simp [oneCells, Value.oneCell']
          have hk1 : (k : Int) < n := by omega
          have HCX := Lib.hid (And.intro hlst (And.intro hbl (And.intro hAb (And.intro hPb (And.intro h20 (And.intro hnn hq))))))
          have HBND := Lib.hid (And.intro hbnd hbnd2)
          have HFT := Lib.hid ft
          have HD1 := Lib.hid D1
          obtain ⟨w10, hw10⟩ : ∃ w10, wr.alloc (.cells #[.int .i64 κ, vL, .int .i64 N, .int .i64 K, .slice Ab q cb] 27) = w10 := ⟨_, rfl⟩
          rw [hw10] at HD1
          have e0 : w10.cell? ⟨wr.heap.size, 0, none⟩ = some (.int .i64 κ) := HD1.out.cell rfl
          clear hel hP hca hmem htk hcl2 h20 hnn hsm2 hlst hbl hAb hPb D1 hfl hbnd hbnd2 ft D hbw hq hκ hNN hKK
          have HUP := Lib.hid (fun (p' : PD) (a s l : Nat) (h : p'.fit a s l) (h1 : a ≤ 2 * k + 6) (h2 : s ≤ 8192 + callsSize (cs.take k) + 240 * k + c.b.length + (framesL c.ls).length) (h3 : l ≤ 2 * k + 6) => h.acts' (a' := 2 * (k + 1) + 4) (s' := 8192 + callsSize (cs.take (k + 1)) + 240 * (k + 1)) (l' := 2 * (k + 1) + 4) (by omega) (by have := HBND.out.1; omega) (by omega))
          have HLOG := Lib.hid hRk.log
          clear hRk
          -- BRANCHES
          by_cases hk0' : κ = 0
          · subst hk0'
            rcases HLOG.out with rfl | ⟨lb, rfl⟩
            · skip
              as_aux_lemma =>
                have HD1b := HD1
                go_wp2_with fail
                go_quiet (fail)
                have HR2 := Lib.hid (show DoR w2 db mb cs (k + 1) (.pointer none) (w10.drewN nq) from ⟨⟨p, _, _, HD1.out.below (below_drewN (Below.refl w10.heap.size w10) nq), HUP.out _ _ _ _ HFT.out (by omega) (by omega) (by omega)⟩⟩)
                obtain ⟨p9, kb9, ko9, D9, ft9⟩ := HR2.out.ex
                have hrd := Lib.hid (do_read D9 ft9 (by omega) (by have := HBND.out.2; omega) (by omega))
                clear ft9
                go_wp2_with fail
                refine hrd.out.mono ?_
                rintro e w20 ⟨v20, rfl, o20, b20⟩
                have D20 := D9.below b20
                have HR20 := Lib.hid (HR2.out.below b20)
                have hrr := Lib.hid (do_rRead D20)
                have O20 := Lib.hid (And.intro o20 D20)
                clear hrd o20 b20 D20 D9
                go_wp2_with fail
                refine hrr.out.mono ?_
                rintro e w21 ⟨rfl, b21⟩
                have D21 := O20.out.2.below b21
                have HR21 := Lib.hid (HR20.out.below b21)
                have o21 := O20.out.1.mv (Mv.of_below (fp := fun _ => False) b21) (fun _ _ c => c)
                obtain ⟨A20, c20, rfl, -⟩ := ob_shape o21 rfl
                have hcv : ∀ M, (convert 25 9 (.slice A20 (rdB p9).length c20)).run Tryd.prog (w21.drewN M) = .ok (.string (tx (rdB p9))) (w21.drewN M) := fun M => conv_bytes ((o21.bl rfl).below (below_drewN (Below.refl _ _) M)) (fun e => ((ob_ends o21 rfl).1 e).2) c20
                have q1 := Lib.hid (fun M => Calls.quiet_of_same (w := w21) (n := M) ((do_acts (D21.below (below_drewN (Below.refl w21.heap.size w21) M))).1.mono fun _ _ hh => ⟨hh.1, hh.2.symm⟩))
                have ca := (do_acts D21).2
                obtain ⟨z20, hz20⟩ : ∃ x, (rdB p9).length = x := ⟨_, rfl⟩
                obtain ⟨t20, ht20⟩ : ∃ x, tx (rdB p9) = x := ⟨_, rfl⟩
                rw [hz20, ht20] at hcv
                rw [hz20, ht20]
                clear hrr b21 D21 o21 hz20 ht20
                go_wp2_with fail
                go_quiet ((go_at_call 32; exact q1.out _))
                have HR22 := Lib.hid (HR21.out.below (below_drewN (Below.refl w21.heap.size w21) nq))
                clear hcv ca q1
                go_wp2_with fail
                go_roundw
                case rel => exact ⟨k + 1, by omega, by go_num, HR22.out⟩
                case measure => simp [intOf]; omega
            · skip
              as_aux_lemma =>
                have hL := Lib.hid (fun w (hb : Below w2.heap.size w2 w) => HCX.out.1.below (HB2.out.trans (hb.mono HB2.out.size)))
                have hA := Lib.hid (do_lAppend vL c.ls (HD1.out.below (Below.refl w10.heap.size w10).drew) HFT.out (by omega) (by omega) (hL.out _ (HD1.out.below (Below.refl w10.heap.size w10).drew).bel) HT2.out hw2 (by have := HBND.out; omega))
                have hfu := HFT.out.append nmLog (framesL c.ls) HD1.out.nd
                have HFU := Lib.hid hfu
                obtain ⟨pA, hpA⟩ : ∃ x, appendP p nmLog (framesL c.ls) = x := ⟨_, rfl⟩
                have hMA : ∀ w', Do w2 db mb (appendP p nmLog (framesL c.ls)).1 p (.pointer (some ⟨lb, 0, none⟩), wr.heap.size, .cells #[.int .i64 0, vL, .int .i64 N, .int .i64 K, .slice Ab q cb] 27 (0, 0)) w' → Calls Tryd.prog 25 #[.pointer (some ⟨mb, 0, none⟩), .string nmLog, .string (tx (framesL c.ls))] w' (DoEnd w2 db mb (appendP p nmLog (framesL c.ls)).1 (appendP p nmLog (framesL c.ls)).1 (.pointer (some ⟨lb, 0, none⟩), wr.heap.size, .cells #[.int .i64 0, vL, .int .i64 N, .int .i64 K, .slice Ab q cb] 27 (0, 0)) (.int .i64 (appendP p nmLog (framesL c.ls)).2)) := fun w' h => do_rAppend (framesL c.ls) h HFT.out (by omega) (by omega) (by have := HBND.out; omega)
                rw [hpA] at hA hMA HFU
                have HXF := Lib.hid (show (framesL c.ls).length ≤ 99000 by have := HBND.out; omega)
                have HL20 := Lib.hid (show c.ls.length ≤ 100000 by have := HCX.out.2.2.2.2.1; omega)
                have d1 : w10.drew.cell? ⟨wr.heap.size, 1, none⟩ = some vL := (HD1.out.below (Below.refl w10.heap.size w10).drew).cell rfl
                have HMA := Lib.hid hMA
                clear hfu hMA
                go_wp2_with fail
                go_region_held3 (fun w' => w'.cell? ⟨wr.heap.size, 1, none⟩ = some vL) (assumption) (first
                  | (go_at_call 19; refine hA.out.mono ?_; rintro e w11 ⟨he11, D11⟩; subst he11; have hc11 : w11.cell? ⟨wr.heap.size, 1, none⟩ = some vL := D11.cell rfl)
                  | (go_at_call 11; refine (texts_any _ _ w11 (hL.out w11 D11.bel) HL20.out).mono ?_; rintro e w12 ⟨v12, he12, ot12, b12⟩; subst he12; have D12 := D11.below b12; have hc12 : w12.cell? ⟨wr.heap.size, 1, none⟩ = some vL := D12.cell rfl)
                  | (go_at_call 10; refine (rframes_any v12 c.ls w12 ot12.strs HXF.out).mono ?_; rintro e w13 ⟨he13, b13⟩; subst he13; have D13 := D12.below b13; have hc13 : w13.cell? ⟨wr.heap.size, 1, none⟩ = some vL := D13.cell rfl)
                  | (go_at_call 25; refine (HMA.out w13 D13).mono ?_; rintro e w14 ⟨he14, D14⟩; subst he14; have hc14 : w14.cell? ⟨wr.heap.size, 1, none⟩ = some vL := D14.cell rfl))
                have HR2 := Lib.hid (show DoR w2 db mb cs (k + 1) (.pointer (some ⟨lb, 0, none⟩)) w14 from ⟨⟨pA.1, _, _, D14, HUP.out _ _ _ _ HFU.out (by omega) (by omega) (by omega)⟩⟩)
                clear d1 D11 hc11 ot12 b12 D12 hc12 b13 D13 hc13 D14 hc14
                obtain ⟨p9, kb9, ko9, D9, ft9⟩ := HR2.out.ex
                have hrd := Lib.hid (do_read D9 ft9 (by omega) (by have := HBND.out.2; omega) (by omega))
                clear ft9
                go_wp2_with fail
                refine hrd.out.mono ?_
                rintro e w20 ⟨v20, rfl, o20, b20⟩
                have D20 := D9.below b20
                have HR20 := Lib.hid (HR2.out.below b20)
                have hrr := Lib.hid (do_rRead D20)
                have O20 := Lib.hid (And.intro o20 D20)
                clear hrd o20 b20 D20 D9
                go_wp2_with fail
                refine hrr.out.mono ?_
                rintro e w21 ⟨rfl, b21⟩
                have D21 := O20.out.2.below b21
                have HR21 := Lib.hid (HR20.out.below b21)
                have o21 := O20.out.1.mv (Mv.of_below (fp := fun _ => False) b21) (fun _ _ c => c)
                obtain ⟨A20, c20, rfl, -⟩ := ob_shape o21 rfl
                have hcv : ∀ M, (convert 25 9 (.slice A20 (rdB p9).length c20)).run Tryd.prog (w21.drewN M) = .ok (.string (tx (rdB p9))) (w21.drewN M) := fun M => conv_bytes ((o21.bl rfl).below (below_drewN (Below.refl _ _) M)) (fun e => ((ob_ends o21 rfl).1 e).2) c20
                have q1 := Lib.hid (fun M => Calls.quiet_of_same (w := w21) (n := M) ((do_acts (D21.below (below_drewN (Below.refl w21.heap.size w21) M))).1.mono fun _ _ hh => ⟨hh.1, hh.2.symm⟩))
                have ca := (do_acts D21).2
                obtain ⟨z20, hz20⟩ : ∃ x, (rdB p9).length = x := ⟨_, rfl⟩
                obtain ⟨t20, ht20⟩ : ∃ x, tx (rdB p9) = x := ⟨_, rfl⟩
                rw [hz20, ht20] at hcv
                rw [hz20, ht20]
                clear hrr b21 D21 o21 hz20 ht20
                go_wp2_with fail
                go_quiet ((go_at_call 32; exact q1.out _))
                have HR22 := Lib.hid (HR21.out.below (below_drewN (Below.refl w21.heap.size w21) nq))
                clear hcv ca q1
                go_wp2_with fail
                go_roundw
                case rel => exact ⟨k + 1, by omega, by go_num, HR22.out⟩
                case measure => simp [intOf]; omega
          · skip
            by_cases hk1' : κ = 1
            · subst hk1'
              rcases HLOG.out with rfl | ⟨lb, rfl⟩
              · skip
                as_aux_lemma =>
                  have HR2 := Lib.hid (show DoR w2 db mb cs (k + 1) (.pointer none) w10 from ⟨⟨p, _, _, HD1.out, HUP.out _ _ _ _ HFT.out (by omega) (by omega) (by omega)⟩⟩)
                  obtain ⟨p9, kb9, ko9, D9, ft9⟩ := HR2.out.ex
                  have hrd := Lib.hid (do_read D9 ft9 (by omega) (by have := HBND.out.2; omega) (by omega))
                  clear ft9
                  go_wp2_with fail
                  refine hrd.out.mono ?_
                  rintro e w20 ⟨v20, rfl, o20, b20⟩
                  have D20 := D9.below b20
                  have HR20 := Lib.hid (HR2.out.below b20)
                  have hrr := Lib.hid (do_rRead D20)
                  have O20 := Lib.hid (And.intro o20 D20)
                  clear hrd o20 b20 D20 D9
                  go_wp2_with fail
                  refine hrr.out.mono ?_
                  rintro e w21 ⟨rfl, b21⟩
                  have D21 := O20.out.2.below b21
                  have HR21 := Lib.hid (HR20.out.below b21)
                  have o21 := O20.out.1.mv (Mv.of_below (fp := fun _ => False) b21) (fun _ _ c => c)
                  obtain ⟨A20, c20, rfl, -⟩ := ob_shape o21 rfl
                  have hcv : ∀ M, (convert 25 9 (.slice A20 (rdB p9).length c20)).run Tryd.prog (w21.drewN M) = .ok (.string (tx (rdB p9))) (w21.drewN M) := fun M => conv_bytes ((o21.bl rfl).below (below_drewN (Below.refl _ _) M)) (fun e => ((ob_ends o21 rfl).1 e).2) c20
                  have q1 := Lib.hid (fun M => Calls.quiet_of_same (w := w21) (n := M) ((do_acts (D21.below (below_drewN (Below.refl w21.heap.size w21) M))).1.mono fun _ _ hh => ⟨hh.1, hh.2.symm⟩))
                  have ca := (do_acts D21).2
                  obtain ⟨z20, hz20⟩ : ∃ x, (rdB p9).length = x := ⟨_, rfl⟩
                  obtain ⟨t20, ht20⟩ : ∃ x, tx (rdB p9) = x := ⟨_, rfl⟩
                  rw [hz20, ht20] at hcv
                  rw [hz20, ht20]
                  clear hrr b21 D21 o21 hz20 ht20
                  go_wp2_with fail
                  go_quiet ((go_at_call 32; exact q1.out _))
                  have HR22 := Lib.hid (HR21.out.below (below_drewN (Below.refl w21.heap.size w21) nq))
                  clear hcv ca q1
                  go_wp2_with fail
                  go_roundw
                  case rel => exact ⟨k + 1, by omega, by go_num, HR22.out⟩
                  case measure => simp [intOf]; omega
              · skip
                as_aux_lemma =>
                  have hA := Lib.hid (do_lSync HD1.out HFT.out (by omega) (by omega) (by have := HBND.out; omega))
                  have HFU := Lib.hid (HFT.out.sync nmLog HD1.out.nd)
                  obtain ⟨pA, hpA⟩ : ∃ x, syncP p nmLog = x := ⟨_, rfl⟩
                  rw [hpA] at hA HFU
                  have HPA := Lib.hid hpA
                  clear hpA
                  go_wp2_with fail
                  refine hA.out.mono ?_
                  rintro e w11 ⟨he11, D11⟩
                  subst he11
                  have hB := do_rSync D11 HFT.out (by omega) (by omega) (by have := HBND.out; omega)
                  rw [HPA.out] at hB
                  have HB := Lib.hid hB
                  clear D11 hA hB
                  go_wp2_with fail
                  refine HB.out.mono ?_
                  rintro e w14 ⟨he14, D14⟩
                  subst he14
                  have HR2 := Lib.hid (show DoR w2 db mb cs (k + 1) (.pointer (some ⟨lb, 0, none⟩)) w14 from ⟨⟨pA.1, _, _, D14, HUP.out _ _ _ _ HFU.out (by omega) (by omega) (by omega)⟩⟩)
                  clear D14 HB
                  obtain ⟨p9, kb9, ko9, D9, ft9⟩ := HR2.out.ex
                  have hrd := Lib.hid (do_read D9 ft9 (by omega) (by have := HBND.out.2; omega) (by omega))
                  clear ft9
                  go_wp2_with fail
                  refine hrd.out.mono ?_
                  rintro e w20 ⟨v20, rfl, o20, b20⟩
                  have D20 := D9.below b20
                  have HR20 := Lib.hid (HR2.out.below b20)
                  have hrr := Lib.hid (do_rRead D20)
                  have O20 := Lib.hid (And.intro o20 D20)
                  clear hrd o20 b20 D20 D9
                  go_wp2_with fail
                  refine hrr.out.mono ?_
                  rintro e w21 ⟨rfl, b21⟩
                  have D21 := O20.out.2.below b21
                  have HR21 := Lib.hid (HR20.out.below b21)
                  have o21 := O20.out.1.mv (Mv.of_below (fp := fun _ => False) b21) (fun _ _ c => c)
                  obtain ⟨A20, c20, rfl, -⟩ := ob_shape o21 rfl
                  have hcv : ∀ M, (convert 25 9 (.slice A20 (rdB p9).length c20)).run Tryd.prog (w21.drewN M) = .ok (.string (tx (rdB p9))) (w21.drewN M) := fun M => conv_bytes ((o21.bl rfl).below (below_drewN (Below.refl _ _) M)) (fun e => ((ob_ends o21 rfl).1 e).2) c20
                  have q1 := Lib.hid (fun M => Calls.quiet_of_same (w := w21) (n := M) ((do_acts (D21.below (below_drewN (Below.refl w21.heap.size w21) M))).1.mono fun _ _ hh => ⟨hh.1, hh.2.symm⟩))
                  have ca := (do_acts D21).2
                  obtain ⟨z20, hz20⟩ : ∃ x, (rdB p9).length = x := ⟨_, rfl⟩
                  obtain ⟨t20, ht20⟩ : ∃ x, tx (rdB p9) = x := ⟨_, rfl⟩
                  rw [hz20, ht20] at hcv
                  rw [hz20, ht20]
                  clear hrr b21 D21 o21 hz20 ht20
                  go_wp2_with fail
                  go_quiet ((go_at_call 32; exact q1.out _))
                  have HR22 := Lib.hid (HR21.out.below (below_drewN (Below.refl w21.heap.size w21) nq))
                  clear hcv ca q1
                  go_wp2_with fail
                  go_roundw
                  case rel => exact ⟨k + 1, by omega, by go_num, HR22.out⟩
                  case measure => simp [intOf]; omega
            · skip
              by_cases hk2' : κ = 2
              · subst hk2'
                rcases HLOG.out with rfl | ⟨lb, rfl⟩
                · skip
                  as_aux_lemma =>
                    have HD1b := HD1
                    go_wp2_with fail
                    go_quiet (fail)
                    have HR2 := Lib.hid (show DoR w2 db mb cs (k + 1) (.pointer none) (w10.drewN nq) from ⟨⟨p, _, _, HD1.out.below (below_drewN (Below.refl w10.heap.size w10) nq), HUP.out _ _ _ _ HFT.out (by omega) (by omega) (by omega)⟩⟩)
                    obtain ⟨p9, kb9, ko9, D9, ft9⟩ := HR2.out.ex
                    have hrd := Lib.hid (do_read D9 ft9 (by omega) (by have := HBND.out.2; omega) (by omega))
                    clear ft9
                    go_wp2_with fail
                    refine hrd.out.mono ?_
                    rintro e w20 ⟨v20, rfl, o20, b20⟩
                    have D20 := D9.below b20
                    have HR20 := Lib.hid (HR2.out.below b20)
                    have hrr := Lib.hid (do_rRead D20)
                    have O20 := Lib.hid (And.intro o20 D20)
                    clear hrd o20 b20 D20 D9
                    go_wp2_with fail
                    refine hrr.out.mono ?_
                    rintro e w21 ⟨rfl, b21⟩
                    have D21 := O20.out.2.below b21
                    have HR21 := Lib.hid (HR20.out.below b21)
                    have o21 := O20.out.1.mv (Mv.of_below (fp := fun _ => False) b21) (fun _ _ c => c)
                    obtain ⟨A20, c20, rfl, -⟩ := ob_shape o21 rfl
                    have hcv : ∀ M, (convert 25 9 (.slice A20 (rdB p9).length c20)).run Tryd.prog (w21.drewN M) = .ok (.string (tx (rdB p9))) (w21.drewN M) := fun M => conv_bytes ((o21.bl rfl).below (below_drewN (Below.refl _ _) M)) (fun e => ((ob_ends o21 rfl).1 e).2) c20
                    have q1 := Lib.hid (fun M => Calls.quiet_of_same (w := w21) (n := M) ((do_acts (D21.below (below_drewN (Below.refl w21.heap.size w21) M))).1.mono fun _ _ hh => ⟨hh.1, hh.2.symm⟩))
                    have ca := (do_acts D21).2
                    obtain ⟨z20, hz20⟩ : ∃ x, (rdB p9).length = x := ⟨_, rfl⟩
                    obtain ⟨t20, ht20⟩ : ∃ x, tx (rdB p9) = x := ⟨_, rfl⟩
                    rw [hz20, ht20] at hcv
                    rw [hz20, ht20]
                    clear hrr b21 D21 o21 hz20 ht20
                    go_wp2_with fail
                    go_quiet ((go_at_call 32; exact q1.out _))
                    have HR22 := Lib.hid (HR21.out.below (below_drewN (Below.refl w21.heap.size w21) nq))
                    clear hcv ca q1
                    go_wp2_with fail
                    go_roundw
                    case rel => exact ⟨k + 1, by omega, by go_num, HR22.out⟩
                    case measure => simp [intOf]; omega
                · skip
                  as_aux_lemma =>
                    have hL := Lib.hid (fun w (hb : Below w2.heap.size w2 w) => HCX.out.1.below (HB2.out.trans (hb.mono HB2.out.size)))
                    have hA := Lib.hid (do_lReset vL c.ls (HD1.out.below (Below.refl w10.heap.size w10).drew) HFT.out (by omega) (by omega) (hL.out _ (HD1.out.below (Below.refl w10.heap.size w10).drew).bel) HT2.out hw2 (by have := HBND.out; omega))
                    have hfu := HFT.out.install nmLog (framesL c.ls) HD1.out.nd
                    have HFU := Lib.hid hfu
                    obtain ⟨pA, hpA⟩ : ∃ x, installP p nmLog (framesL c.ls) = x := ⟨_, rfl⟩
                    have hMA : ∀ w', Do w2 db mb (installP p nmLog (framesL c.ls)).1 p (.pointer (some ⟨lb, 0, none⟩), wr.heap.size, .cells #[.int .i64 2, vL, .int .i64 N, .int .i64 K, .slice Ab q cb] 27 (0, 0)) w' → Calls Tryd.prog 28 #[.pointer (some ⟨mb, 0, none⟩), .string nmLog, .string (tx (framesL c.ls))] w' (DoEnd w2 db mb (installP p nmLog (framesL c.ls)).1 (installP p nmLog (framesL c.ls)).1 (.pointer (some ⟨lb, 0, none⟩), wr.heap.size, .cells #[.int .i64 2, vL, .int .i64 N, .int .i64 K, .slice Ab q cb] 27 (0, 0)) (.int .i64 (installP p nmLog (framesL c.ls)).2)) := fun w' h => do_rInstall (framesL c.ls) h HFT.out (by omega) (by omega) (by have := HBND.out; omega)
                    rw [hpA] at hA hMA HFU
                    have HXF := Lib.hid (show (framesL c.ls).length ≤ 99000 by have := HBND.out; omega)
                    have HL20 := Lib.hid (show c.ls.length ≤ 100000 by have := HCX.out.2.2.2.2.1; omega)
                    have d1 : w10.drew.cell? ⟨wr.heap.size, 1, none⟩ = some vL := (HD1.out.below (Below.refl w10.heap.size w10).drew).cell rfl
                    have HMA := Lib.hid hMA
                    clear hfu hMA
                    go_wp2_with fail
                    go_region_held3 (fun w' => w'.cell? ⟨wr.heap.size, 1, none⟩ = some vL) (assumption) (first
                      | (go_at_call 23; refine hA.out.mono ?_; rintro e w11 ⟨he11, D11⟩; subst he11; have hc11 : w11.cell? ⟨wr.heap.size, 1, none⟩ = some vL := D11.cell rfl)
                      | (go_at_call 11; refine (texts_any _ _ w11 (hL.out w11 D11.bel) HL20.out).mono ?_; rintro e w12 ⟨v12, he12, ot12, b12⟩; subst he12; have D12 := D11.below b12; have hc12 : w12.cell? ⟨wr.heap.size, 1, none⟩ = some vL := D12.cell rfl)
                      | (go_at_call 10; refine (rframes_any v12 c.ls w12 ot12.strs HXF.out).mono ?_; rintro e w13 ⟨he13, b13⟩; subst he13; have D13 := D12.below b13; have hc13 : w13.cell? ⟨wr.heap.size, 1, none⟩ = some vL := D13.cell rfl)
                      | (go_at_call 28; refine (HMA.out w13 D13).mono ?_; rintro e w14 ⟨he14, D14⟩; subst he14; have hc14 : w14.cell? ⟨wr.heap.size, 1, none⟩ = some vL := D14.cell rfl))
                    have HR2 := Lib.hid (show DoR w2 db mb cs (k + 1) (.pointer (some ⟨lb, 0, none⟩)) w14 from ⟨⟨pA.1, _, _, D14, HUP.out _ _ _ _ HFU.out (by omega) (by omega) (by omega)⟩⟩)
                    clear d1 D11 hc11 ot12 b12 D12 hc12 b13 D13 hc13 D14 hc14
                    obtain ⟨p9, kb9, ko9, D9, ft9⟩ := HR2.out.ex
                    have hrd := Lib.hid (do_read D9 ft9 (by omega) (by have := HBND.out.2; omega) (by omega))
                    clear ft9
                    go_wp2_with fail
                    refine hrd.out.mono ?_
                    rintro e w20 ⟨v20, rfl, o20, b20⟩
                    have D20 := D9.below b20
                    have HR20 := Lib.hid (HR2.out.below b20)
                    have hrr := Lib.hid (do_rRead D20)
                    have O20 := Lib.hid (And.intro o20 D20)
                    clear hrd o20 b20 D20 D9
                    go_wp2_with fail
                    refine hrr.out.mono ?_
                    rintro e w21 ⟨rfl, b21⟩
                    have D21 := O20.out.2.below b21
                    have HR21 := Lib.hid (HR20.out.below b21)
                    have o21 := O20.out.1.mv (Mv.of_below (fp := fun _ => False) b21) (fun _ _ c => c)
                    obtain ⟨A20, c20, rfl, -⟩ := ob_shape o21 rfl
                    have hcv : ∀ M, (convert 25 9 (.slice A20 (rdB p9).length c20)).run Tryd.prog (w21.drewN M) = .ok (.string (tx (rdB p9))) (w21.drewN M) := fun M => conv_bytes ((o21.bl rfl).below (below_drewN (Below.refl _ _) M)) (fun e => ((ob_ends o21 rfl).1 e).2) c20
                    have q1 := Lib.hid (fun M => Calls.quiet_of_same (w := w21) (n := M) ((do_acts (D21.below (below_drewN (Below.refl w21.heap.size w21) M))).1.mono fun _ _ hh => ⟨hh.1, hh.2.symm⟩))
                    have ca := (do_acts D21).2
                    obtain ⟨z20, hz20⟩ : ∃ x, (rdB p9).length = x := ⟨_, rfl⟩
                    obtain ⟨t20, ht20⟩ : ∃ x, tx (rdB p9) = x := ⟨_, rfl⟩
                    rw [hz20, ht20] at hcv
                    rw [hz20, ht20]
                    clear hrr b21 D21 o21 hz20 ht20
                    go_wp2_with fail
                    go_quiet ((go_at_call 32; exact q1.out _))
                    have HR22 := Lib.hid (HR21.out.below (below_drewN (Below.refl w21.heap.size w21) nq))
                    clear hcv ca q1
                    go_wp2_with fail
                    go_roundw
                    case rel => exact ⟨k + 1, by omega, by go_num, HR22.out⟩
                    case measure => simp [intOf]; omega
              · skip
                by_cases hk3' : κ = 3
                · subst hk3'
                  as_aux_lemma =>
                    have hof := Lib.hid (do_off N HD1.out HFT.out (by omega) (by omega) (by have := HBND.out; omega))
                    have d2 : w10.cell? ⟨wr.heap.size, 2, none⟩ = some (.int .i64 N) := HD1.out.cell rfl
                    go_wp2_with fail
                    refine hof.out.mono ?_
                    rintro e w11 ⟨he11, D11⟩
                    subst he11
                    have d2 : w11.cell? ⟨wr.heap.size, 2, none⟩ = some (.int .i64 N) := D11.cell rfl
                    have hlo := Lib.hid (do_rLose N D11 HFT.out (by omega) (by omega) (by have := HBND.out; omega))
                    have ft12 := Lib.hid (HFT.out.lose N)
                    obtain ⟨pL, hpL⟩ : ∃ x, p.lose N = x := ⟨_, rfl⟩
                    rw [hpL] at hlo ft12
                    clear hof D11 hpL
                    go_wp2_with fail
                    refine hlo.out.mono ?_
                    rintro e w12 ⟨he12, D12⟩
                    subst he12
                    have hon := Lib.hid (do_on D12)
                    clear hlo D12 d2
                    go_wp2_with fail
                    refine hon.out.mono ?_
                    rintro e w13 ⟨he13, D13⟩
                    subst he13
                    obtain ⟨fz13, ce13, D14⟩ := do_rOn D13
                    have ft14 := Lib.hid ft12.out.on
                    obtain ⟨pO, hpO⟩ : ∃ x, ({ pL with down := false } : PD) = x := ⟨_, rfl⟩
                    rw [hpO] at D14 ft14
                    have hop := Lib.hid (do_open D14 ft14.out (by omega) (by have := HBND.out; omega) (by omega) HT2.out hw2)
                    have HND := Lib.hid D14.nd
                    clear hon D13 D14 hpO
                    go_wp2_with fail
                    refine hop.out.mono ?_
                    rintro e w15 ⟨outs15, m15, vo15, lv15, F15, G15, hr15, rfl, T15, V15, l15⟩
                    have HRO := Lib.hid (do_rOpen T15 V15 l15 ft14.out (by omega) (by have := HBND.out; omega) (by omega) HND.out)
                    have HR15 := Lib.hid hr15
                    have ft15 := Lib.hid (ft14.out.opened nmLog m15 HND.out)
                    clear hop hr15 T15 V15 l15 fz13 ce13
                    go_wp2_with fail
                    refine HRO.out.mono ?_
                    rintro e w16 ⟨outs16, m16, vo16, hr16, rfl, D16, l16, s16⟩
                    obtain ⟨rfl, hop16⟩ := fileRecs_det HR15.out hr16
                    rw [← hop16] at D16 s16 ⊢
                    obtain ⟨p16, hp16⟩ : ∃ p2, (openP pO nmLog m15).1 = p2 := ⟨_, rfl⟩
                    rw [hp16] at D16 ft15
                    obtain ⟨c16, hc16⟩ : ∃ c, (openP pO nmLog m15).2 = c := ⟨_, rfl⟩
                    rw [hc16] at l16 s16 ⊢
                    obtain ⟨gl16, hgl16⟩ : ∃ gl, gotL c16 outs15 = gl := ⟨_, rfl⟩
                    rw [hgl16] at l16 s16
                    have hgl2 : gl16.length ≤ 100000 := by rw [← hgl16]; exact gotL_len HR15.out ft14.out (by have := HBND.out; omega) c16
                    have hsame := Lib.hid (same_any _ _ gl16 (gl16.map tx) w16 l16 s16 hgl2 (by rw [List.length_map]; exact hgl2))
                    have HD16 := Lib.hid D16
                    clear HRO hr16 D16 l16 s16 hop16 hp16 hc16 hgl16 hgl2
                    go_wp2_with fail
                    refine hsame.out.mono ?_
                    rintro e w17 ⟨b, rfl, hb, b17⟩
                    have hbt : b = true := hb.2 rfl
                    subst hbt
                    have HR2 := Lib.hid (show DoR w2 db mb cs (k + 1) lv15 w17 from ⟨⟨p16, _, _, HD16.out.below b17, HUP.out _ _ _ _ ft15.out (by omega) (by omega) (by omega)⟩⟩)
                    clear hsame hb b17 HD16
                    obtain ⟨p9, kb9, ko9, D9, ft9⟩ := HR2.out.ex
                    have hrd := Lib.hid (do_read D9 ft9 (by omega) (by have := HBND.out.2; omega) (by omega))
                    clear ft9
                    go_wp2_with fail
                    refine hrd.out.mono ?_
                    rintro e w20 ⟨v20, rfl, o20, b20⟩
                    have D20 := D9.below b20
                    have HR20 := Lib.hid (HR2.out.below b20)
                    have hrr := Lib.hid (do_rRead D20)
                    have O20 := Lib.hid (And.intro o20 D20)
                    clear hrd o20 b20 D20 D9
                    go_wp2_with fail
                    refine hrr.out.mono ?_
                    rintro e w21 ⟨rfl, b21⟩
                    have D21 := O20.out.2.below b21
                    have HR21 := Lib.hid (HR20.out.below b21)
                    have o21 := O20.out.1.mv (Mv.of_below (fp := fun _ => False) b21) (fun _ _ c => c)
                    obtain ⟨A20, c20, rfl, -⟩ := ob_shape o21 rfl
                    have hcv : ∀ M, (convert 25 9 (.slice A20 (rdB p9).length c20)).run Tryd.prog (w21.drewN M) = .ok (.string (tx (rdB p9))) (w21.drewN M) := fun M => conv_bytes ((o21.bl rfl).below (below_drewN (Below.refl _ _) M)) (fun e => ((ob_ends o21 rfl).1 e).2) c20
                    have q1 := Lib.hid (fun M => Calls.quiet_of_same (w := w21) (n := M) ((do_acts (D21.below (below_drewN (Below.refl w21.heap.size w21) M))).1.mono fun _ _ hh => ⟨hh.1, hh.2.symm⟩))
                    have ca := (do_acts D21).2
                    obtain ⟨z20, hz20⟩ : ∃ x, (rdB p9).length = x := ⟨_, rfl⟩
                    obtain ⟨t20, ht20⟩ : ∃ x, tx (rdB p9) = x := ⟨_, rfl⟩
                    rw [hz20, ht20] at hcv
                    rw [hz20, ht20]
                    clear hrr b21 D21 o21 hz20 ht20
                    go_wp2_with fail
                    go_quiet ((go_at_call 32; exact q1.out _))
                    have HR22 := Lib.hid (HR21.out.below (below_drewN (Below.refl w21.heap.size w21) nq))
                    clear hcv ca q1
                    go_wp2_with fail
                    go_roundw
                    case rel => exact ⟨k + 1, by omega, by go_num, HR22.out⟩
                    case measure => simp [intOf]; omega
                · skip
                  by_cases hk4' : κ = 4
                  · subst hk4'
                    as_aux_lemma =>
                      have har := Lib.hid (do_arm N K HD1.out)
                      have d2 : w10.cell? ⟨wr.heap.size, 2, none⟩ = some (.int .i64 N) := HD1.out.cell rfl
                      have d3 : w10.cell? ⟨wr.heap.size, 3, none⟩ = some (.int .i64 K) := HD1.out.cell rfl
                      go_wp2_with fail
                      refine har.out.mono ?_
                      rintro e w11 ⟨he11, D11⟩
                      subst he11
                      have hra := Lib.hid (do_rArm N K D11)
                      have d2 : w11.cell? ⟨wr.heap.size, 2, none⟩ = some (.int .i64 N) := D11.cell rfl
                      have d3 : w11.cell? ⟨wr.heap.size, 3, none⟩ = some (.int .i64 K) := D11.cell rfl
                      clear har D11
                      go_wp2_with fail
                      refine hra.out.mono ?_
                      rintro e w14 ⟨he14, D14⟩
                      subst he14
                      have HR2 := Lib.hid (show DoR w2 db mb cs (k + 1) _ w14 from ⟨⟨_, _, _, D14, HUP.out _ _ _ _ (HFT.out.arm N K HCX.out.2.2.2.2.2.1) (by omega) (by omega) (by omega)⟩⟩)
                      clear D14 hra d2 d3
                      obtain ⟨p9, kb9, ko9, D9, ft9⟩ := HR2.out.ex
                      have hrd := Lib.hid (do_read D9 ft9 (by omega) (by have := HBND.out.2; omega) (by omega))
                      clear ft9
                      go_wp2_with fail
                      refine hrd.out.mono ?_
                      rintro e w20 ⟨v20, rfl, o20, b20⟩
                      have D20 := D9.below b20
                      have HR20 := Lib.hid (HR2.out.below b20)
                      have hrr := Lib.hid (do_rRead D20)
                      have O20 := Lib.hid (And.intro o20 D20)
                      clear hrd o20 b20 D20 D9
                      go_wp2_with fail
                      refine hrr.out.mono ?_
                      rintro e w21 ⟨rfl, b21⟩
                      have D21 := O20.out.2.below b21
                      have HR21 := Lib.hid (HR20.out.below b21)
                      have o21 := O20.out.1.mv (Mv.of_below (fp := fun _ => False) b21) (fun _ _ c => c)
                      obtain ⟨A20, c20, rfl, -⟩ := ob_shape o21 rfl
                      have hcv : ∀ M, (convert 25 9 (.slice A20 (rdB p9).length c20)).run Tryd.prog (w21.drewN M) = .ok (.string (tx (rdB p9))) (w21.drewN M) := fun M => conv_bytes ((o21.bl rfl).below (below_drewN (Below.refl _ _) M)) (fun e => ((ob_ends o21 rfl).1 e).2) c20
                      have q1 := Lib.hid (fun M => Calls.quiet_of_same (w := w21) (n := M) ((do_acts (D21.below (below_drewN (Below.refl w21.heap.size w21) M))).1.mono fun _ _ hh => ⟨hh.1, hh.2.symm⟩))
                      have ca := (do_acts D21).2
                      obtain ⟨z20, hz20⟩ : ∃ x, (rdB p9).length = x := ⟨_, rfl⟩
                      obtain ⟨t20, ht20⟩ : ∃ x, tx (rdB p9) = x := ⟨_, rfl⟩
                      rw [hz20, ht20] at hcv
                      rw [hz20, ht20]
                      clear hrr b21 D21 o21 hz20 ht20
                      go_wp2_with fail
                      go_quiet ((go_at_call 32; exact q1.out _))
                      have HR22 := Lib.hid (HR21.out.below (below_drewN (Below.refl w21.heap.size w21) nq))
                      clear hcv ca q1
                      go_wp2_with fail
                      go_roundw
                      case rel => exact ⟨k + 1, by omega, by go_num, HR22.out⟩
                      case measure => simp [intOf]; omega
                  · skip
                    by_cases hk5' : κ = 5
                    · subst hk5'
                      as_aux_lemma =>
                        have hq := HCX.out.2.2.2.2.2.2
                        have hbl := fun (w : World) (hb : Below W.heap.size W w) => HCX.out.2.1.below hb
                        have hcvB : ∀ w', Below W.heap.size W w' → (convert 25 9 (.slice Ab q cb)).run Tryd.prog w' = .ok (.string (tx c.b)) w' := fun w' hb => by
                          rw [← hq]
                          exact conv_bytes (hbl w' hb) (fun e => (HCX.out.2.2.1 e).2) cb
                        have hDd := HD1.out.below (Below.refl w10.heap.size w10).drew
                        have hWd : ∀ {pd pm : PD} {lvx : Value × Nat × Obj} {w : World}, Do w2 db mb pd pm lvx w → Below W.heap.size W w := fun h => HB2.out.trans (h.bel.mono HB2.out.size)
                        have hA := Lib.hid (do_append Ab q cb c.b hDd HFT.out (by omega) (by omega) (by have := HBND.out; omega) (hbl _ (hWd hDd)) hq HCX.out.2.2.1 (fun g o e h => Nat.lt_of_lt_of_le (HCX.out.2.2.2.1 g o e h) HB2.out.size))
                        have HFU := Lib.hid (HFT.out.append nmLog c.b HD1.out.nd)
                        obtain ⟨pA, hpA⟩ : ∃ x, appendP p nmLog c.b = x := ⟨_, rfl⟩
                        have hMA : ∀ (lvx : Value × Nat × Obj) w', Do w2 db mb (appendP p nmLog c.b).1 p lvx w' → Calls Tryd.prog 25 #[.pointer (some ⟨mb, 0, none⟩), .string nmLog, .string (tx c.b)] w' (DoEnd w2 db mb (appendP p nmLog c.b).1 (appendP p nmLog c.b).1 lvx (.int .i64 (appendP p nmLog c.b).2)) := fun lvx w' h => do_rAppend c.b h HFT.out (by omega) (by omega) (by have := HBND.out; omega)
                        rw [hpA] at hA hMA HFU
                        have d4 : w10.drew.cell? ⟨wr.heap.size, 4, none⟩ = some (.slice Ab q cb) := hDd.cell rfl
                        have hb0 := hWd hDd
                        have HMA := Lib.hid hMA
                        obtain ⟨tb, htb⟩ : ∃ t, tx c.b = t := ⟨_, rfl⟩
                        rw [htb] at hcvB HMA
                        have HWD := Lib.hid (fun (lvv : Value) (w : World) (h : Do w2 db mb pA.1 p (lvv, wr.heap.size, .cells #[.int .i64 5, vL, .int .i64 N, .int .i64 K, .slice Ab q cb] 27 (0, 0)) w) => And.intro (hWd h) (h.cell (i := 4) rfl))
                        have HWE := Lib.hid (fun (lvv : Value) (w : World) (h : Do w2 db mb pA.1 pA.1 (lvv, wr.heap.size, .cells #[.int .i64 5, vL, .int .i64 N, .int .i64 K, .slice Ab q cb] 27 (0, 0)) w) => And.intro (hWd h) (h.cell (i := 4) rfl))
                        clear hMA hpA hq htb hWd hDd hbl
                        go_wp2_with fail
                        go_region_held3 (fun w' => w'.cell? ⟨wr.heap.size, 4, none⟩ = some (.slice Ab q cb) ∧ Below W.heap.size W w') (exact ⟨by assumption, by assumption⟩) (first
                          | (go_at_call 14; refine hA.out.mono ?_; rintro e w11 ⟨he11, D11⟩; subst he11; obtain ⟨b11, c11⟩ := HWD.out _ w11 D11)
                          | (go_at_call 25; refine (HMA.out _ w11 D11).mono ?_; rintro e w14 ⟨he14, D14⟩; subst he14; obtain ⟨b14, c14⟩ := HWE.out _ w14 D14))
                        have HR2 := Lib.hid (show DoR w2 db mb cs (k + 1) _ w14 from ⟨⟨pA.1, _, _, D14, HUP.out _ _ _ _ HFU.out (by omega) (by have := HCX.out.2.2.2.2.2.2; omega) (by omega)⟩⟩)
                        clear d4 D11 D14 b11 c11 b14 c14 hcvB hb0
                        obtain ⟨p9, kb9, ko9, D9, ft9⟩ := HR2.out.ex
                        have hrd := Lib.hid (do_read D9 ft9 (by omega) (by have := HBND.out.2; omega) (by omega))
                        clear ft9
                        go_wp2_with fail
                        refine hrd.out.mono ?_
                        rintro e w20 ⟨v20, rfl, o20, b20⟩
                        have D20 := D9.below b20
                        have HR20 := Lib.hid (HR2.out.below b20)
                        have hrr := Lib.hid (do_rRead D20)
                        have O20 := Lib.hid (And.intro o20 D20)
                        clear hrd o20 b20 D20 D9
                        go_wp2_with fail
                        refine hrr.out.mono ?_
                        rintro e w21 ⟨rfl, b21⟩
                        have D21 := O20.out.2.below b21
                        have HR21 := Lib.hid (HR20.out.below b21)
                        have o21 := O20.out.1.mv (Mv.of_below (fp := fun _ => False) b21) (fun _ _ c => c)
                        obtain ⟨A20, c20, rfl, -⟩ := ob_shape o21 rfl
                        have hcv : ∀ M, (convert 25 9 (.slice A20 (rdB p9).length c20)).run Tryd.prog (w21.drewN M) = .ok (.string (tx (rdB p9))) (w21.drewN M) := fun M => conv_bytes ((o21.bl rfl).below (below_drewN (Below.refl _ _) M)) (fun e => ((ob_ends o21 rfl).1 e).2) c20
                        have q1 := Lib.hid (fun M => Calls.quiet_of_same (w := w21) (n := M) ((do_acts (D21.below (below_drewN (Below.refl w21.heap.size w21) M))).1.mono fun _ _ hh => ⟨hh.1, hh.2.symm⟩))
                        have ca := (do_acts D21).2
                        obtain ⟨z20, hz20⟩ : ∃ x, (rdB p9).length = x := ⟨_, rfl⟩
                        obtain ⟨t20, ht20⟩ : ∃ x, tx (rdB p9) = x := ⟨_, rfl⟩
                        rw [hz20, ht20] at hcv
                        rw [hz20, ht20]
                        clear hrr b21 D21 o21 hz20 ht20
                        go_wp2_with fail
                        go_quiet ((go_at_call 32; exact q1.out _))
                        have HR22 := Lib.hid (HR21.out.below (below_drewN (Below.refl w21.heap.size w21) nq))
                        clear hcv ca q1
                        go_wp2_with fail
                        go_roundw
                        case rel => exact ⟨k + 1, by omega, by go_num, HR22.out⟩
                        case measure => simp [intOf]; omega
                    · skip
                      as_aux_lemma =>
                        have HR2 := Lib.hid (show DoR w2 db mb cs (k + 1) _ w10 from ⟨⟨p, _, _, HD1.out, HUP.out _ _ _ _ HFT.out (by omega) (by omega) (by omega)⟩⟩)
                        obtain ⟨p9, kb9, ko9, D9, ft9⟩ := HR2.out.ex
                        have hrd := Lib.hid (do_read D9 ft9 (by omega) (by have := HBND.out.2; omega) (by omega))
                        clear ft9
                        go_wp2_with fail
                        refine hrd.out.mono ?_
                        rintro e w20 ⟨v20, rfl, o20, b20⟩
                        have D20 := D9.below b20
                        have HR20 := Lib.hid (HR2.out.below b20)
                        have hrr := Lib.hid (do_rRead D20)
                        have O20 := Lib.hid (And.intro o20 D20)
                        clear hrd o20 b20 D20 D9
                        go_wp2_with fail
                        refine hrr.out.mono ?_
                        rintro e w21 ⟨rfl, b21⟩
                        have D21 := O20.out.2.below b21
                        have HR21 := Lib.hid (HR20.out.below b21)
                        have o21 := O20.out.1.mv (Mv.of_below (fp := fun _ => False) b21) (fun _ _ c => c)
                        obtain ⟨A20, c20, rfl, -⟩ := ob_shape o21 rfl
                        have hcv : ∀ M, (convert 25 9 (.slice A20 (rdB p9).length c20)).run Tryd.prog (w21.drewN M) = .ok (.string (tx (rdB p9))) (w21.drewN M) := fun M => conv_bytes ((o21.bl rfl).below (below_drewN (Below.refl _ _) M)) (fun e => ((ob_ends o21 rfl).1 e).2) c20
                        have q1 := Lib.hid (fun M => Calls.quiet_of_same (w := w21) (n := M) ((do_acts (D21.below (below_drewN (Below.refl w21.heap.size w21) M))).1.mono fun _ _ hh => ⟨hh.1, hh.2.symm⟩))
                        have ca := (do_acts D21).2
                        obtain ⟨z20, hz20⟩ : ∃ x, (rdB p9).length = x := ⟨_, rfl⟩
                        obtain ⟨t20, ht20⟩ : ∃ x, tx (rdB p9) = x := ⟨_, rfl⟩
                        rw [hz20, ht20] at hcv
                        rw [hz20, ht20]
                        clear hrr b21 D21 o21 hz20 ht20
                        go_wp2_with fail
                        go_quiet ((go_at_call 32; exact q1.out _))
                        have HR22 := Lib.hid (HR21.out.below (below_drewN (Below.refl w21.heap.size w21) nq))
                        clear hcv ca q1
                        go_wp2_with fail
                        go_roundw
                        case rel => exact ⟨k + 1, by omega, by go_num, HR22.out⟩
                        case measure => simp [intOf]; omega
        -- END BRANCHES
        · have hkn : k = n := by omega
          have hk1 : ¬ (k : Int) < n := by omega
          have hbw := Lib.hid (HB2.out.trans (D.bel.mono HB2.out.size))
          have n1 := Lib.hid (fun w => (nil_calls w).1)
          have n2 := Lib.hid (fun w => (nil_calls w).2.1)
          have n3 := Lib.hid (fun w => (nil_calls w).2.2.1)
          have n4 := Lib.hid (fun w => (nil_calls w).2.2.2)
          clear D ft hRk
          go_wp2_with fail
          refine (n1.out _).mono ?_
          rintro e w30 ⟨rfl, rfl⟩
          go_wp2_with fail
          refine (n2.out _).mono ?_
          rintro e w31 ⟨rfl, rfl⟩
          go_wp2_with fail
          refine (n3.out _).mono ?_
          rintro e w32 ⟨rfl, rfl⟩
          go_wp2_with fail
          refine (n4.out _).mono ?_
          rintro e w33 ⟨rfl, rfl⟩
          go_wp2_with fail
          go_ret
          exact ⟨rfl, hbw.out⟩
end Go.Proofs.YtldicnhpccionaaDoor
