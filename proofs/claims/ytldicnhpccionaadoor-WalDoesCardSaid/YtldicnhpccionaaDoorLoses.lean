/-
WalLoses: wherever the power goes, a beginning of the records is found, with all that was synced.
-/
import Derived.Test.YtldicnhpccionaaDoorAlive
import Derived.Deep.Cut
import Derived.Deep.CutRange
import Derived.Deep.CutBlock
namespace Go.Proofs.YtldicnhpccionaaDoor
open Go.RowKit
set_option linter.unusedVariables false
set_option linter.unusedSimpArgs false
/-- a row of bools -/
def Bools (w : World) (v : Value) (n : Nat) : Prop := ∃ A cap, v = .slice A n cap ∧ (0 < n → ∃ g o, A = some ⟨g, o, none⟩ ∧ g < w.heap.size ∧ ∀ i, i < n → ∃ b, w.cell? ⟨g, o + i, none⟩ = some (.bool b))
theorem one_rec (w : World) {A : Option Addr} {c n : Nat} {l : List UInt8} (h : BL w A l) (hl : l.length = n) (hA : A = none → c = 0 ∧ l = []) : Lst (fun _ => True) (w.alloc (.cells #[.slice A n c] 25)) (.slice (some ⟨w.heap.size, 0, none⟩) 1 1) [l] := by
  subst hl
  refine ⟨⟨_, 1, rfl, Nat.le_refl _, fun _ => ⟨w.heap.size, 0, rfl, by simp, trivial, fun i hi => ?_⟩⟩⟩
  have hi' : i = 0 := by simp at hi; omega
  subst hi'
  refine ⟨⟨A, c, ?_, h.below (alloc_below w _), hA, fun _ _ _ _ => trivial⟩⟩
  rw [World.cell?_alloc_at _ _ _ _ rfl]; rfl
/-- how long records are -/
def lens (ls : List (List UInt8)) : Nat := (ls.map List.length).sum
theorem lens_take {ls : List (List UInt8)} {k : Nat} (h : k < ls.length) : lens (ls.take (k + 1)) = lens (ls.take k) + (ls.getD k []).length := by
  unfold lens
  rw [List.take_succ_eq_append_getElem h, List.map_append, List.sum_append, List.getD_eq_getElem?_getD, List.getElem?_eq_getElem h]
  simp
theorem frames_lens (ls : List (List UInt8)) : (framesL ls).length = lens ls + 12 * ls.length := by
  induction ls with
  | nil => rfl
  | cons l r ih =>
    have e : framesL (l :: r) = frameL l ++ framesL r := by simp [framesL]
    rw [e, List.length_append, frameL_len, ih]
    simp [lens]; omega
theorem len_le_lens {ls : List (List UInt8)} {l : List UInt8} (h : l ∈ ls) : l.length ≤ lens ls := by
  induction ls with
  | nil => cases h
  | cons x r ih =>
    simp only [lens, List.map_cons, List.sum_cons]
    rcases List.mem_cons.1 h with rfl | h
    · omega
    · have := ih h; simp only [lens] at this; omega
/-- what is safe, and what there is -/
structure Found (nm : ByteArray) (ls : List (List UInt8)) (made safe : Nat) (p : PD) : Prop where
  all : whole nm p <+: framesL (ls.take made)
  old : framesL (ls.take safe) <+: (cont nm p).1
  le : safe ≤ made
theorem Found.lose {nm : ByteArray} {ls : List (List UInt8)} {made safe : Nat} {p : PD} (h : Found nm ls made safe p) (k : Int) : Found nm ls made safe (p.lose k) := by
  cases hd : p.down with
  | true =>
    have e : p.lose k = p := by unfold PD.lose; rw [if_pos hd]
    rw [e]; exact h
  | false =>
    obtain ⟨c1, c2, c3⟩ := cont_lose nm k p hd
    refine ⟨?_, ?_, h.le⟩
    · unfold whole
      rw [c1, List.append_nil]
      refine List.IsPrefix.trans ?_ h.all
      unfold whole keepN
      exact (List.prefix_append_right_inj _).2 (List.take_prefix _ _)
    · rw [c1]
      exact h.old.trans (List.prefix_append _ _)
/-- what holds at the head of the loop of appends -/
structure LosR (ls : List (List UInt8)) (W : World) (db lb : Nat) (F : Nat → Prop) (p : PD) (j sf : Nat) (w : World) : Prop where
  law : Law W db F p w
  log : LogS w lb db nmLog F
  fit : p.fit (2 + 2 * j) (framesL (ls.take j)).length (2 + 2 * j)
  up : p.down = false
  all : whole nmLog p = framesL (ls.take j)
  old : framesL (ls.take sf) <+: (cont nmLog p).1
  le : sf ≤ j
theorem frames_one (l : List UInt8) : framesL [l] = frameL l := by simp [framesL]
/-- a record more, and the power stays -/
theorem LosR.app {ls : List (List UInt8)} {W : World} {db lb : Nat} {F F' : Nat → Prop} {p p' : PD} {j sf : Nat} {w w' : World} (h : LosR ls W db lb F p j sf w) (hj : j < ls.length) (L : Law W db F' p' w') (G : LogS w' lb db nmLog F') (ft : p'.fit (2 + 2 * j + 1) ((framesL (ls.take j)).length + (framesL [ls.getD j []]).length) (2 + 2 * j + 1))
    (hd : p'.down = false) (hc : cont nmLog p' = ((cont nmLog p).1, (cont nmLog p).2 ++ framesL [ls.getD j []])) : LosR ls W db lb F' p' (j + 1) sf w' := by
  refine ⟨L, G, ?_, hd, ?_, by rw [hc]; exact h.old, Nat.le_succ_of_le h.le⟩
  · rw [framesL_take hj, List.length_append, ← frames_one]
    exact ft.mono (by omega) (Nat.le_refl _) (by omega)
  · unfold whole
    rw [hc, framesL_take hj, ← h.all, ← frames_one, ← List.append_assoc]
    rfl
/-- .. and all is synced -/
theorem LosR.syn {ls : List (List UInt8)} {W : World} {db lb : Nat} {F F' : Nat → Prop} {p p' : PD} {j sf : Nat} {w w' : World} (h : LosR ls W db lb F p j sf w) (L : Law W db F' p' w') (G : LogS w' lb db nmLog F') (ft : p'.fit (2 + 2 * j + 1) (framesL (ls.take j)).length (2 + 2 * j + 1))
    (hd : p'.down = false) (hc : cont nmLog p' = (whole nmLog p, [])) : p'.fit (2 + 2 * j + 1) (framesL (ls.take j)).length (2 + 2 * j + 1) ∧ whole nmLog p' = framesL (ls.take j) ∧ framesL (ls.take j) <+: (cont nmLog p').1 := by
  refine ⟨ft, ?_, ?_⟩
  · unfold whole; rw [hc, List.append_nil]; exact h.all
  · rw [hc, h.all]; exact List.prefix_refl _
theorem LosR.found {ls : List (List UInt8)} {W : World} {db lb : Nat} {F : Nat → Prop} {p : PD} {j sf : Nat} {w : World} (h : LosR ls W db lb F p j sf w) : Found nmLog ls j sf p := ⟨by rw [h.all]; exact List.prefix_refl _, h.old, h.le⟩
/-- the power goes: of what waits a part is kept -/
theorem Found.gone {ls : List (List UInt8)} {p p' : PD} {j sf : Nat} (hold : framesL (ls.take sf) <+: (cont nmLog p).1) (hle : sf ≤ j) {b : List UInt8} (hall : (cont nmLog p).1 ++ b = framesL (ls.take j)) {k : Int} (hc : cont nmLog p' = ((cont nmLog p).1 ++ keepN k b, [])) : Found nmLog ls j sf p' := by
  refine ⟨?_, ?_, hle⟩
  · unfold whole
    rw [hc, List.append_nil, ← hall]
    exact (List.prefix_append_right_inj _).2 (List.take_prefix _ _)
  · rw [hc]; exact hold.trans (List.prefix_append _ _)
set_option maxRecDepth 100000 in
set_option maxHeartbeats 4000000 in
theorem loses_walk (W : World) (v v1 : Value) (ls : List (List UInt8)) (n1 : Nat) (n keep : Int) (htab : Tab W) (h0 : 0 < W.heap.size) (hL : Lst (fun i => i < W.heap.size) W v ls) (hB : Bools W v1 n1) (hn : n ≤ 9223372036854775807)
    (hls : ls.length ≤ 140737488355328) (hll : ∀ l ∈ ls, l.length ≤ 140737488355328) (hn1 : n1 ≤ 140737488355328) :
    Calls Tryd.prog 4 #[v, v1, .int .i64 n, .int .i64 keep] W fun e w' => e = .returned (.bool true) ∧ Below W.heap.size W w' := by
  have hal := Lib.hid (alive_any W htab h0)
  have HT := Lib.hid htab
  have HLS := Lib.hid hL
  obtain ⟨A, cap, rfl, hcap, hel⟩ := hL.ex
  obtain ⟨A1, cap1, rfl, hel1⟩ := hB
  obtain ⟨m, hm⟩ : ∃ m, ls.length = m := ⟨_, rfl⟩
  have HEL := Lib.hid hel
  have HEL1 := Lib.hid hel1
  have HM := Lib.hid hm
  have HLL := Lib.hid hll
  have HN := Lib.hid hn
  have hmi : (m : Int) ≤ 140737488355328 := by omega
  have hmi0 : (0 : Int) ≤ m := by omega
  have hni : (n1 : Int) ≤ 140737488355328 := by omega
  rw [hm]
  rw [hm] at HLS
  clear htab hL hcap hel hel1 hm hll hn hls hn1
  go_enter Tryd.func4, Tryd.ntmps4
  go_wp2_with fail
  refine hal.out.mono ?_
  rintro e w1 ⟨rfl, hb1⟩
  have HB1 := Lib.hid hb1
  clear hal hb1
  go_wp2_with fail
  go_loop [9, 30] (fun s t => ∃ k : Nat, k ≤ m ∧ t = .int .i64 k ∧ s = .int .i64 (lens (ls.take k) : Nat) ∧ lens (ls.take k) ≤ 8192) (fun _ t => m - (intOf t).toNat)
  case atStart => exact ⟨0, Nat.zero_le _, rfl, rfl, by simp [lens]⟩
  case round =>
    obtain ⟨k, hk, rfl, rfl, hle⟩ := hrel
    have hk0 : (0 : Int) ≤ k := by omega
    by_cases hlt : k < m
    · obtain ⟨g, o, rfl, hg, hP, hel⟩ := HEL.out (by have := HM.out; omega)
      have hlk : k < ls.length := by have := HM.out; omega
      obtain ⟨Ak, ck, hc, hbl, hA, -⟩ := (hel k hlk).ex
      have hmem : ls.getD k [] ∈ ls := by rw [List.getD_eq_getElem?_getD, List.getElem?_eq_getElem hlk]; exact List.getElem_mem hlk
      have hll := HLL.out _ hmem
      have htk := lens_take hlk
      generalize ls.getD k [] = l at hc hbl hA hmem hll htk
      obtain ⟨q, hq⟩ : ∃ q, l.length = q := ⟨_, rfl⟩
      rw [hq] at hc hll htk
      obtain ⟨σ, hσ⟩ : ∃ σ, lens (ls.take k) = σ := ⟨_, rfl⟩
      rw [hσ] at hle htk ⊢
      have HTK := Lib.hid htk
      have hk1 : (k : Int) < m := by omega
      have hs0 : (0 : Int) ≤ σ := by omega
      have hs1 : (σ : Int) ≤ 8192 := by omega
      have hq0 : (0 : Int) ≤ q := by omega
      have hq1 : (q : Int) ≤ 140737488355328 := by omega
      have hcr : w1.cell? ⟨g, o + k, none⟩ = some (.slice Ak q ck) := (HB1.out.cell (p := ⟨g, o + k, none⟩) hg).trans hc
      clear hc hbl hA hmem hll htk hq hσ hel hP hg hle
      by_cases hbig : 8192 < σ + q
      · have hb2 : (8192 : Int) < σ + q := by omega
        go_wp2_with fail
        go_ret
        exact ⟨rfl, HB1.out⟩
      · have hb2 : ¬ (8192 : Int) < σ + q := by omega
        go_wp2_with fail
        go_round
        case rel => exact ⟨k + 1, by omega, by go_num, by rw [HTK.out]; go_num, by rw [HTK.out]; omega⟩
        case measure => simp [intOf]; omega
    · have hkm : k = m := by omega
      subst hkm
      rw [show ls.take k = ls by rw [← HM.out, List.take_length]] at hle ⊢
      by_cases hgt : 40 < k
      · have hg1 : (40 : Int) < k := by omega
        go_wp2_with fail
        go_ret
        exact ⟨rfl, HB1.out⟩
      · have hg1 : ¬ (40 : Int) < k := by omega
        by_cases hsy : n1 < k
        · have hg2 : (n1 : Int) < k := by omega
          go_wp2_with fail
          go_ret
          exact ⟨rfl, HB1.out⟩
        · have hg2 : ¬ (n1 : Int) < k := by omega
          have hnew := Lib.hid (new_any w1)
          clear hni hmi
          have HTOT := Lib.hid (show (framesL ls).length ≤ 9000 by rw [frames_lens, HM.out]; omega)
          have hk40 : k ≤ 40 := by omega
          generalize lens ls = σ at hle ⊢
          clear hle
          go_wp2_with fail
          refine hnew.out.mono ?_
          rintro e w2 ⟨db, rfl, hdb, d2, b2⟩
          have L2 : Law w1 db (fun i => w1.heap.size ≤ i) newP w2 := ⟨d2, fun i h => h, b2⟩
          have HT1 := Lib.hid (HT.out.below HB1.out h0)
          have hw1 : 0 < w1.heap.size := Nat.lt_of_lt_of_le h0 HB1.out.size
          have hop := Lib.hid (open_law nmLog L2 newP_fit (by omega) (by omega) (by omega) (by decide) HT1.out hw1 rfl (by decide) (by decide))
          clear hnew d2 b2 L2
          go_wp2_with fail
          refine hop.out.mono ?_
          rintro e w3 ⟨outs, m3, F3, p3, lb, vo, rfl, L3, G3, hls, hr, hco, hdn, hfu, -, ft3, -, -⟩
          have har := Lib.hid (arm_law n keep HN.out L3 G3 ft3)
          have hw0 : whole nmLog newP = [] := rfl
          rw [hw0, List.take_nil] at hco
          have hdn4 : (p3.arm n keep).down = false := hdn
          have hco4 : cont nmLog (p3.arm n keep) = ([], []) := hco
          generalize p3.arm n keep = p4 at har hdn4 hco4
          clear hop L3 G3 hls hr hco hdn hfu ft3 hw0
          go_wp2_with fail
          refine har.out.mono ?_
          rintro e w4 ⟨rfl, L4, G4, ft4, -⟩
          have HL4 := Lib.hid (And.intro L4 (And.intro G4 ft4))
          have F4h : Found nmLog ls 0 0 p4 := ⟨by unfold whole; rw [hco4]; exact List.nil_prefix, by rw [hco4]; exact List.prefix_refl _, Nat.le_refl _⟩
          clear har L4 G4 ft4
          have HFO := Lib.hid F4h
          clear F4h
          generalize orNew F3 w3 = F4 at HL4
          go_upto_block 2 with fail
          go_cut [15, 16, 17] from 18 (fun e made safe wc => ∃ (x : Int) (md sf : Nat) (F : Nat → Prop) (p : PD), e = .int .i64 x ∧ made = .int .i64 md ∧ safe = .int .i64 sf ∧ Law w1 db F p wc ∧ LogS wc lb db nmLog F ∧ p.fit 90 9000 90 ∧ md ≤ k ∧ Found nmLog ls md sf p)
          case first =>
            go_wp2_with fail
            have HDN := Lib.hid hdn4
            have HCO := Lib.hid hco4
            clear hdn4 hco4
            go_loopw [15, 16, 17, 66] (fun e made safe t wr => ∃ (j sf : Nat) (F : Nat → Prop) (p : PD), j ≤ k ∧ t = .int .i64 j ∧ e = .int .i64 0 ∧ made = .int .i64 j ∧ safe = .int .i64 sf ∧ LosR ls w1 db lb F p j sf wr) (fun _ _ _ t _ => k - (intOf t).toNat)
            case atStart =>
              refine ⟨0, 0, F4, p4, Nat.zero_le _, rfl, rfl, rfl, rfl, HL4.out.1, HL4.out.2.1, HL4.out.2.2, HDN.out, ?_, ?_, Nat.le_refl _⟩
              · unfold whole; rw [HCO.out]; rfl
              · rw [HCO.out]; exact List.prefix_refl _
            case round =>
              obtain ⟨j, sf, F, p, hj, rfl, rfl, rfl, rfl, hR⟩ := hrel
              have HR := Lib.hid hR
              clear hR
              have hj0 : (0 : Int) ≤ j := by omega
              by_cases hlt : j < k
              · obtain ⟨g, o, rfl, hg, hP, hel⟩ := HEL.out (by have := HM.out; omega)
                have hlk : j < ls.length := by have := HM.out; omega
                obtain ⟨Ak, ck, hc, hbl, hA, -⟩ := (hel j hlk).ex
                have hmem : ls.getD j [] ∈ ls := by rw [List.getD_eq_getElem?_getD, List.getElem?_eq_getElem hlk]; exact List.getElem_mem hlk
                have htk := framesL_take hlk
                have hle := frames_le (ls := ls) (j + 1)
                rw [htk, List.length_append, ← frames_one] at hle
                have hL1 := HR.out.law
                have hbw := HB1.out.trans (hL1.bel.mono HB1.out.size)
                have hcr : wr.cell? ⟨g, o + j, none⟩ = some (.slice Ak (ls.getD j []).length ck) := (hbw.cell (p := ⟨g, o + j, none⟩) hg).trans hc
                have hba := alloc_below wr (.cells #[.slice Ak (ls.getD j []).length ck] 25)
                have hap := lAppend_law _ _ (hL1.below hba) (HR.out.log.below hba) HR.out.fit (by omega) (by omega) (by decide) (one_rec wr (hbl.below hbw) rfl hA) HT1.out hw1 (by have := HTOT.out; omega)
                have hcas := append_cases nmLog (framesL [ls.getD j []]) p HR.out.up
                have happ := fun (F' : Nat → Prop) p' w' => HR.out.app (F' := F') (p' := p') (w' := w') hlk
                have hgon := fun p' k hc => Found.gone (p := p) (p' := p') (j := j + 1) HR.out.old (Nat.le_succ_of_le HR.out.le) (b := (cont nmLog p).2 ++ framesL [ls.getD j []]) (by rw [framesL_take hlk, ← HR.out.all, ← frames_one, ← List.append_assoc]; rfl) (k := k) hc
                have HLE := Lib.hid hle
                have HTK := Lib.hid htk
                generalize ls.getD j [] = l at hcr hap hcas happ hgon hmem HLE HTK hle
                obtain ⟨q, hq⟩ : ∃ q, l.length = q := ⟨_, rfl⟩
                rw [hq] at hcr hap
                have HAPP := Lib.hid happ
                have HGON := Lib.hid hgon
                have hj1 : (j : Int) < k := by omega
                generalize appendP p nmLog (framesL [l]) = r at hap hcas
                have HAP := Lib.hid hap
                have HCAS := Lib.hid hcas
                obtain ⟨p5, c5⟩ := r
                clear hc hbl hA hmem htk hle hel hP hL1 hbw hba hcas happ hgon hq hap
                go_wp2_with fail
                refine HAP.out.mono ?_
                rintro e w5 ⟨rfl, L5, G5, ft5, -⟩
                generalize orNew F _ = F5 at L5 G5
                have hszs : (framesL (ls.take j)).length + (framesL [l]).length ≤ 9000 := by have := HLE.out; have := HTOT.out; omega
                rcases HCAS.out with ⟨-, rfl, hd5, -, -, hc5⟩ | ⟨-, rfl, hd5, -, hc5⟩
                · have hR5 := HAPP.out F5 p5 w5 L5 G5 ft5 hd5 hc5
                  obtain ⟨gs, os, rfl, hgs, hbs⟩ := HEL1.out (by omega)
                  obtain ⟨b, hcb⟩ := hbs j (by omega)
                  have hcb5 : w5.cell? ⟨gs, os + j, none⟩ = some (.bool b) := ((HB1.out.trans (L5.bel.mono HB1.out.size)).cell (p := ⟨gs, os + j, none⟩) hgs).trans hcb
                  have hj2 : (j : Int) < n1 := by omega
                  clear hcb hbs hgs
                  cases b with
                  | false =>
                    have HR5 := Lib.hid hR5
                    clear hR5 L5 G5 ft5 hd5 hc5
                    go_wp2_with fail
                    go_roundw
                    case rel => exact ⟨j + 1, sf, F5, p5, by omega, by go_num, rfl, by go_num, rfl, HR5.out⟩
                    case measure => simp [intOf]; omega
                  | true =>
                    have hsy := lSync_law L5 G5 ft5 (by omega) (by omega) (by omega) (by decide)
                    have hcas := sync_cases nmLog p5 hd5
                    generalize syncP p5 nmLog = r at hsy hcas
                    obtain ⟨p6, c6⟩ := r
                    have HSY := Lib.hid hsy
                    have HCAS2 := Lib.hid hcas
                    have HR5 := Lib.hid hR5
                    clear hR5 L5 G5 ft5 hd5 hc5 hsy hcas
                    go_wp2_with fail
                    refine HSY.out.mono ?_
                    rintro e w6 ⟨rfl, L6, G6, ft6, -⟩
                    rcases HCAS2.out with ⟨-, rfl, hd6, -, -, hc6⟩ | ⟨-, rfl, hd6, -, hc6⟩
                    · have hR6 : LosR ls w1 db lb (orNew F5 w5) p6 (j + 1) (j + 1) w6 := by
                        refine ⟨L6, G6, ?_, hd6, ?_, ?_, Nat.le_refl _⟩
                        · rw [HTK.out, List.length_append, ← frames_one]
                          exact ft6.mono (by omega) (Nat.le_refl _) (by omega)
                        · unfold whole; rw [hc6, List.append_nil]; exact HR5.out.all
                        · rw [hc6, HR5.out.all]; exact List.prefix_refl _
                      have HR6 := Lib.hid hR6
                      clear hR6 L6 G6 ft6 hd6 hc6 hcb5
                      go_wp2_with fail
                      go_roundw
                      case rel => exact ⟨j + 1, j + 1, _, p6, by omega, by go_num, rfl, by go_num, by go_num, HR6.out⟩
                      case measure => simp [intOf]; omega
                    · have hF6 : Found nmLog ls (j + 1) sf p6 := Found.gone (p := p5) (p' := p6) HR5.out.old HR5.out.le HR5.out.all hc6
                      have E := Lib.hid (And.intro L6 (And.intro G6 (And.intro (ft6.mono (a' := 90) (s' := 9000) (l' := 90) (by omega) hszs (by omega)) hF6)))
                      clear L6 G6 ft6 hd6 hc6 hF6 hcb5
                      go_wp2_with fail
                      go_meet
                      case rel => exact ⟨21, j + 1, sf, _, _, rfl, by go_num, rfl, E.out.1, E.out.2.1, E.out.2.2.1, by omega, E.out.2.2.2⟩
                · have hF5 := HGON.out p5 _ hc5
                  have E := Lib.hid (And.intro L5 (And.intro G5 (And.intro (ft5.mono (a' := 90) (s' := 9000) (l' := 90) (by omega) hszs (by omega)) hF5)))
                  clear L5 G5 ft5 hd5 hc5 hF5
                  go_wp2_with fail
                  go_meet
                  case rel => exact ⟨21, j + 1, sf, _, _, rfl, by go_num, rfl, E.out.1, E.out.2.1, E.out.2.2.1, by omega, E.out.2.2.2⟩
              · have hjk : j = k := by omega
                have hj1 : ¬ (j : Int) < k := by omega
                go_wp2_with fail
                go_meet
                case rel =>
                  have hfl := frames_le (ls := ls) j
                  have := HTOT.out
                  exact ⟨0, j, sf, F, p, rfl, by rw [hjk], rfl, HR.out.law, HR.out.log, HR.out.fit.mono (by omega) (by omega) (by omega), by omega, HR.out.found⟩
          case rest =>
            obtain ⟨x, md, sf, F, p, rfl, rfl, rfl, L, G, ft, hmd, hF⟩ := hcut
            have hof := Lib.hid (off_law keep L G ft (by omega) (by omega) (by omega))
            have hF1 := hF.lose keep
            generalize p.lose keep = p1 at hof hF1
            clear L G ft hF HL4 HFO hdn4 hco4
            go_wp2_with fail
            refine hof.out.mono ?_
            rintro e w5 ⟨rfl, L5, G5, ft5, -⟩
            have hon := Lib.hid (on_law L5 G5 ft5)
            clear hof L5 G5 ft5
            go_wp2_with fail
            refine hon.out.mono ?_
            rintro e w6 ⟨rfl, L6, G6, ft6, -⟩
            have har := Lib.hid (arm_law 0 0 (by decide) L6 G6 ft6)
            have hfu : (({ p1 with down := false } : PD).arm 0 0).fuse = 0 := rfl
            have hdn : (({ p1 with down := false } : PD).arm 0 0).down = false := rfl
            have hF2 : Found nmLog ls md sf (({ p1 with down := false } : PD).arm 0 0) := ⟨hF1.all, hF1.old, hF1.le⟩
            generalize ({ p1 with down := false } : PD).arm 0 0 = p2 at har hfu hdn hF2
            clear hon L6 G6 ft6 hF1
            go_wp2_with fail
            refine har.out.mono ?_
            rintro e w7 ⟨rfl, L7, G7, ft7, -⟩
            have hop := Lib.hid (open_law nmLog L7 ft7 (by omega) (by omega) (by omega) (by decide) HT1.out hw1 hdn (by rw [hfu]; decide) (by rw [hfu]; decide))
            have HFU := Lib.hid hfu
            have HF2 := Lib.hid hF2
            clear har L7 G7 ft7 hdn hfu hF2
            go_wp2_with fail
            refine hop.out.mono ?_
            rintro e w8 ⟨outs, m8, F8, p8, lb8, vo8, rfl, L8, G8, hls8, hr8, hco8, hdn8, hfu8, -, ft8, -, -⟩
            have hfu8 := hfu8 HFU.out
            have hlen : ∀ l ∈ ls.take md, l.length ≤ 100000 := fun l hl => by
              have h1 := len_le_frames (List.mem_of_mem_take hl)
              have := HTOT.out; omega
            obtain ⟨j, hj, hout, htk, hsafe⟩ := recs_of_prefix hlen HF2.out.all hr8
            have hmdl : (ls.take md).length = md := by rw [List.length_take, HM.out]; omega
            rw [hmdl] at hj hsafe
            have hsj : sf ≤ j := hsafe sf HF2.out.le (by
              rw [List.take_take, Nat.min_eq_left HF2.out.le]
              unfold whole
              exact HF2.out.old.trans (List.prefix_append _ _))
            rw [List.take_take, Nat.min_eq_left hj] at hout
            have hjl : outs.length = j := by rw [hout, List.length_take, HM.out]; omega
            have hwh8 : whole nmLog p8 = framesL outs := by unfold whole; rw [hco8, List.append_nil]; exact htk
            obtain ⟨Ag, cg, rfl, hcg, helg⟩ := hls8.ex
            have HELG := Lib.hid helg
            have HLG := Lib.hid hls8
            have HL8 := Lib.hid (And.intro L8 (And.intro ft8 (And.intro hdn8 hfu8)))
            have HOUT := Lib.hid hout
            have HWH := Lib.hid hwh8
            have HLEN := Lib.hid hlen
            have HJL := Lib.hid hjl
            rw [hjl]
            clear hop L8 G8 hls8 hr8 hco8 hdn8 hfu8 ft8 hlen hout htk hsafe hmdl hwh8 hcg helg hjl
            have g1 : ¬ (j : Int) < sf := by omega
            have g2 : ¬ (md : Int) < j := by omega
            have hjk : j ≤ k := by omega
            go_wp2_with fail
            go_loopw [122] (fun t wr => ∃ i : Nat, i ≤ j ∧ t = .int .i64 i ∧ Below w8.heap.size w8 wr) (fun t _ => j - (intOf t).toNat)
            case atStart => exact ⟨0, Nat.zero_le _, rfl, Below.refl _ _⟩
            case round =>
              obtain ⟨i, hi, rfl, hb⟩ := hrel
              have hi0 : (0 : Int) ≤ i := by omega
              by_cases hlt : i < j
              · obtain ⟨gg, og, rfl, hgg, -, helg⟩ := HELG.out (by have := HJL.out; omega)
                obtain ⟨g, o, rfl, hg, -, hel⟩ := HEL.out (by have := HM.out; omega)
                obtain ⟨Ai, ci, hc, hbl, hA, -⟩ := (helg i (by have := HJL.out; omega)).ex
                obtain ⟨Bi, di, hc2, hbl2, hA2, -⟩ := (hel i (by have := HM.out; omega)).ex
                have heq : outs.getD i [] = ls.getD i [] := by
                  rw [HOUT.out, List.getD_eq_getElem?_getD, List.getD_eq_getElem?_getD, List.getElem?_take, if_pos hlt]
                rw [heq] at hc hbl hA
                have hbW : Below W.heap.size W wr := HB1.out.trans ((HL8.out.1.bel.trans (hb.mono HL8.out.1.bel.size)).mono HB1.out.size)
                generalize ls.getD i [] = l at hc hbl hA hc2 hbl2 hA2
                obtain ⟨q, hq⟩ : ∃ q, l.length = q := ⟨_, rfl⟩
                have hcv : ∀ N, (convert 25 9 (.slice Ai q ci)).run Tryd.prog (wr.drewN N) = .ok (.string (tx l)) (wr.drewN N) := fun N => by
                  have := conv_bytes (w := wr.drewN N) (hbl.below ((hb).trans (below_drewN (Below.refl _ _) N))) (fun e => (hA e).2) ci
                  rw [hq] at this
                  exact this
                have hcv2 : ∀ N, (convert 25 9 (.slice Bi q di)).run Tryd.prog (wr.drewN N) = .ok (.string (tx l)) (wr.drewN N) := fun N => by
                  have := conv_bytes (w := wr.drewN N) (hbl2.below (hbW.trans (below_drewN (Below.refl _ _) N))) (fun e => (hA2 e).2) di
                  rw [hq] at this
                  exact this
                rw [hq] at hc hc2
                have hcr : wr.cell? ⟨gg, og + i, none⟩ = some (.slice Ai q ci) := (hb.cell (p := ⟨gg, og + i, none⟩) hgg).trans hc
                have hcr2 : wr.cell? ⟨g, o + i, none⟩ = some (.slice Bi q di) := (hbW.cell (p := ⟨g, o + i, none⟩) hg).trans hc2
                generalize tx l = s1 at hcv hcv2
                have hi1 : (i : Int) < j := by omega
                have hi2 : (i : Int) < k := by omega
                have HBB := Lib.hid hb
                clear hc hc2 hbl hbl2 hA hA2 hel helg hg hgg hq hb hbW heq
                go_wp2_with fail
                go_quiet (fail)
                have HB8 := Lib.hid (HBB.out.trans ((below_drewN (Below.refl wr.heap.size wr) nq).mono HBB.out.size))
                clear hcv hcr hcr2 hcv2
                generalize wr.drewN nq = W8 at *
                have he3 : (!(s1.toList == s1.toList)) = false := by rw [beq_self_eq_true]; rfl
                go_wp2_with fail
                go_roundw
                case rel => exact ⟨i + 1, by omega, by go_num, HB8.out⟩
                case measure => simp [intOf]; omega
              · have hij : i = j := by omega
                have L9 := HL8.out.1.below hb
                have hop2 := Lib.hid (open_law nmLog L9 HL8.out.2.1 (by omega) (by omega) (by omega) (by decide) HT1.out hw1 HL8.out.2.2.1 (by rw [HL8.out.2.2.2]; decide) (by rw [HL8.out.2.2.2]; decide))
                have HLG9 := Lib.hid (HLG.out.below hb)
                clear L9 hb
                go_wp2_with fail
                refine hop2.out.mono ?_
                rintro e w10 ⟨outs2, m10, F10, p10, lb10, vo10, rfl, L10, G10, hls10, hr10, -, -, -, -, -, m9, -⟩
                have houts : outs2 = outs := by
                  rw [HWH.out] at hr10
                  have h1 := recs_frames (ls := outs) (t := []) (fun l hl => HLEN.out l (by rw [HOUT.out] at hl; exact (List.take_subset_take_left _ (by omega)) hl)) recs_nil
                  rw [List.append_nil, List.append_nil] at h1
                  exact (hr10.det h1).1
                subst houts
                have HLG10 := Lib.hid (HLG9.out.mv (P' := fun _ => True) m9 (fun i _ h => ⟨h, trivial⟩))
                have htx := Lib.hid (texts_any _ _ w10 HLG10.out (by rw [HJL.out]; omega))
                have HL10 := Lib.hid (And.intro L10 hls10)
                rw [HJL.out] at htx
                clear hop2 L10 G10 hls10 hr10 m9
                go_wp2_with fail
                refine htx.out.mono ?_
                rintro e w11 ⟨vt, rfl, hot, b11⟩
                have hsm := Lib.hid (same_any _ _ _ _ w11 (HL10.out.2.below b11) hot.strs (by rw [HJL.out]; omega) (by rw [List.length_map, HJL.out]; omega))
                have HL11 := Lib.hid (HL10.out.1.below b11)
                clear htx hot b11
                go_wp2_with fail
                refine hsm.out.mono ?_
                rintro e w12 ⟨b, rfl, hb, b12⟩
                have hbt : b = true := hb.2 rfl
                subst hbt
                have E := Lib.hid (HB1.out.trans ((HL11.out.below b12).bel.mono HB1.out.size))
                clear b12 hb hsm
                go_wp2_with fail
                go_ret
                exact ⟨rfl, E.out⟩
end Go.Proofs.YtldicnhpccionaaDoor
