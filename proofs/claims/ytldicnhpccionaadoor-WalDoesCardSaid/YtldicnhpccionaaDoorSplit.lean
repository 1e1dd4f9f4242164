/-
The records of bytes.
-/
import Derived.Test.YtldicnhpccionaaDoorOut
import Derived.ScopeJumps
import Derived.WalkMore
namespace Go.Proofs.YtldicnhpccionaaDoor
open Go.RowKit
set_option linter.unusedVariables false
set_option linter.unusedSimpArgs false

/-- a scope whose one label is come to from above, and by jumps back -/
theorem wp_scope_again {P : Program} {a : Act} {w : World} {Q : Exit → Act → World → Prop} {c body : Code} (l : Nat) (J : Act → World → Prop) (μ : Act → World → Nat) (hf : findLabel c l = some (.seq .skip body))
    (first : (∀ a w, J a w → body.wp P (Exit.jump l J Q) a w) → c.wp P (Exit.jump l J Q) a w)
    (pass : ∀ a w, J a w → body.wp P (Exit.jump l (fun a' w' => J a' w' ∧ μ a' w' < μ a w) Q) a w) : (Code.scope c).wp P Q a w :=
  wp_scope_jumps l J μ hf (first fun a w hj => Code.wp_mono (fun e a w h => by
    cases e with
    | goto l' => exact ⟨h.1, h.2.1⟩
    | _ => exact h) (pass a w hj)) fun a w hj => wp_seq (wp_skip (pass a w hj))

theorem toList_mk (l : List UInt8) : (⟨l.toArray⟩ : ByteArray).toList = l := ByteArray.toList_mk l
@[go_sem ↓] theorem ap_Bs (ty : TypeId) (args : Array Value) : Builtin.append_ #[25, 25] ty args = apRow #[25, 25] ty args := rfl
@[go_sem ↓] theorem ap_SS (ty : TypeId) (args : Array Value) : Builtin.append_ #[22, 22] ty args = apRow #[22, 22] ty args := rfl

/-- the frame at the label -/
def SplitJ (A : Option Addr) (n cap : Nat) (R : Value → Nat → World → Prop) (a : Act) (w : World) : Prop :=
  ∃ (vo : Value) (at' : Nat) (u6 u7 u8 u9 u10 u11 u12 u13 u14 u15 u16 u17 u18 u19 u20 u21 u22 u23 u24 u25 u26 u27 u28 u29 u30 u31 u32 u33 u34 u35 u36 u37 u38 u39 u40 u41 u42 u43 u44 u45 u46 u47 u48 u49 u50 u51 u52 u53 u54 u55 u56 u57 u58 u59 u60 u61 u62 u63 u64 u65 u66 u67 u68 u69 u70 u71 u72 u73 u74 u75 u76 u77 u78 u79 u80 : Value), a = { tmps := #[.slice A n cap, undef, .slice none 0 0, .int .i64 0, vo, .int .i64 at', u6, u7, u8, u9, u10, u11, u12, u13, u14, u15, u16, u17, u18, u19, u20, u21, u22, u23, u24, u25, u26, u27, u28, u29, u30, u31, u32, u33, u34, u35, u36, u37, u38, u39, u40, u41, u42, u43, u44, u45, u46, u47, u48, u49, u50, u51, u52, u53, u54, u55, u56, u57, u58, u59, u60, u61, u62, u63, u64, u65, u66, u67, u68, u69, u70, u71, u72, u73, u74, u75, u76, u77, u78, u79, u80], defers := [] } ∧ R vo at' w
def atOf (a : Act) : Nat := (intOf (a.tmps.getD 5 undef)).toNat

/-- some records are found, the rest begins at a -/
structure SpR (l : List UInt8) (w0 : World) (vo : Value) (a : Nat) (wv : World) : Prop where
  le : a ≤ l.length
  recs : ∃ outs, OutL wv w0.heap.size vo outs ∧ outs.length ≤ a ∧ ∀ o m, Recs (l.drop a) o m → Recs l (outs ++ o) (a + m)
  bel : Below w0.heap.size w0 wv
/-- what split answers -/
def SplitEnd (l : List UInt8) (w : World) (e : Ending) (w' : World) : Prop := ∃ vo outs m, e = .returned (.tuple #[vo, .int .i64 (m : Nat)]) ∧ Recs l outs m ∧ OutL w' w.heap.size vo outs ∧ Below w.heap.size w w'
theorem SpR.stop {l : List UInt8} {w : World} {vo : Value} {a : Nat} {wv w' : World} (h : SpR l w vo a wv) (hn : nextR (l.drop a) = none) (hb : Below wv.heap.size wv w') : SplitEnd l w (.returned (.tuple #[vo, .int .i64 (a : Nat)])) w' := by
  obtain ⟨outs, ho, -, hr⟩ := h.recs
  have := hr [] 0 (.none hn)
  exact ⟨vo, outs, a, rfl, by simpa using this, ho.below hb, h.bel.trans (hb.mono h.bel.size)⟩

set_option maxRecDepth 100000 in
set_option maxHeartbeats 2000000 in
theorem split_any (A : Option Addr) (n cap : Nat) (l : List UInt8) (w : World) (h : BL w A l) (hl : l.length = n) (hcap : n ≤ cap) (hn : n ≤ 100000) (htab : Tab w) (hw0 : 0 < w.heap.size) :
    Calls Tryd.prog 38 #[.slice A n cap] w (SplitEnd l w) := by
  have HB := Lib.hid h
  have HL := Lib.hid hl
  have HT := Lib.hid htab
  have hni : (n : Int) ≤ 100000 := by omega
  have hci : (n : Int) ≤ cap := by omega
  clear h hl htab hn hcap
  go_enter Tryd.func38, Tryd.ntmps38
  go_wp2_with fail
  refine wp_scope_again 0 (SplitJ A n cap (SpR l w)) (fun a _ => n - atOf a) rfl (fun hp => ?_) ?_
  · go_wp2_with fail
    go_step3
    simp only [Exit.then]
    rename_i hK
    refine hK _ _ (hp _ _ ⟨.slice none 0 0, 0, _, _, _, _, _, _, _, _, _, _, _, _, _, _, _, _, _, _, _, _, _, _, _, _, _, _, _, _, _, _, _, _, _, _, _, _, _, _, _, _, _, _, _, _, _, _, _, _, _, _, _, _, _, _, _, _, _, _, _, _, _, _, _, _, _, _, _, _, _, _, _, _, _, _, _, rfl, ⟨Nat.zero_le _, ⟨[], outL_nil _ _, Nat.le_refl _, fun o m h => by simpa using h⟩, Below.refl _ _⟩⟩)
  · rintro a wv ⟨vo, at', u6, u7, u8, u9, u10, u11, u12, u13, u14, u15, u16, u17, u18, u19, u20, u21, u22, u23, u24, u25, u26, u27, u28, u29, u30, u31, u32, u33, u34, u35, u36, u37, u38, u39, u40, u41, u42, u43, u44, u45, u46, u47, u48, u49, u50, u51, u52, u53, u54, u55, u56, u57, u58, u59, u60, u61, u62, u63, u64, u65, u66, u67, u68, u69, u70, u71, u72, u73, u74, u75, u76, u77, u78, u79, u80, rfl, hS⟩
    have hle : at' ≤ n := by have := hS.le; rw [HL.out] at this; exact this
    have ha0 : (0 : Int) ≤ at' := by omega
    have ha1 : (at' : Int) ≤ n := by omega
    have hdl : (l.drop at').length = n - at' := by rw [List.length_drop, HL.out]
    have HS := Lib.hid hS
    have HDL := Lib.hid hdl
    clear hS hdl
    by_cases h12 : n - at' < 12
    · have g12 : (n : Int) - at' < 12 := by omega
      have hnx := Lib.hid (show nextR (l.drop at') = none by unfold nextR; rw [HDL.out, if_pos h12])
      go_wp2_with fail
      simp only [Exit.jump]
      go_ret2
      exact HS.out.stop hnx.out (Below.refl _ _)
    · have g12 : ¬ (n : Int) - at' < 12 := by omega
      obtain ⟨b, o, rfl, hbl, hc⟩ := HB.out.mem (by rw [HL.out]; omega)
      have hbw : b < wv.heap.size := Nat.lt_of_lt_of_le hbl HS.out.bel.size
      have hcw := Lib.hid (fun j u hu => (HS.out.bel.cell (p := ⟨b, o + j, none⟩) hbl).trans (hc j u hu))
      clear hc
      have gc1 : ¬ cap = at' + 8 := by omega
      go_wp2_with fail
      go_loop [24, 6] (fun t x => ∃ k : Nat, k ≤ 4 ∧ t = .int .i64 k ∧ x = .int .i64 (beN ((l.drop (at' + 8)).take k) : Nat)) (fun t _ => 4 - (intOf t).toNat)
      case atStart => exact ⟨0, by omega, rfl, rfl⟩
      case round =>
        obtain ⟨k, hk, rfl, rfl⟩ := hrel
        by_cases hk4 : k < 4
        · have hlt : at' + 8 + k < l.length := by rw [HL.out]; omega
          have hcell := hcw.out (at' + 8 + k) _ (bcs_get hlt)
          have hx8 := xl_u8 l (at' + 8 + k)
          obtain ⟨c, hc, hc8⟩ : ∃ c : Nat, xl l (at' + 8 + k) = c ∧ c < 256 := ⟨(xl l (at' + 8 + k)).toNat, by have := hx8.1; omega, by have := hx8.1; have := hx8.2; omega⟩
          rw [hc, ← Nat.add_assoc] at hcell
          have hbe : beN ((l.drop (at' + 8)).take (k + 1)) = beN ((l.drop (at' + 8)).take k) * 256 + c := by
            have hlt2 : k < (l.drop (at' + 8)).length := by rw [List.length_drop]; omega
            rw [List.take_succ_eq_append_getElem hlt2, beN_snoc, List.getElem_drop]
            congr 1
            have : (xl l (at' + 8 + k)) = (l[at' + 8 + k].toNat : Int) := by unfold xl; rw [List.getD_eq_getElem?_getD, List.getElem?_eq_getElem hlt]; rfl
            omega
          have hxl : beN ((l.drop (at' + 8)).take k) < 16777216 := by
            have h1 := beN_lt ((l.drop (at' + 8)).take k)
            have h2 : ((l.drop (at' + 8)).take k).length ≤ 3 := by rw [List.length_take]; omega
            have h3 : 256 ^ ((l.drop (at' + 8)).take k).length ≤ 256 ^ 3 := Nat.pow_le_pow_right (by decide) h2
            omega
          have HBE := Lib.hid hbe
          have hk0 : (0 : Int) ≤ k := by omega
          have hk1 : (k : Int) < 4 := by omega
          generalize beN ((l.drop (at' + 8)).take k) = x at *
          have hor := or_byte hxl hc8
          have hx0 : (0 : Int) ≤ x := by omega
          have hx1 : (x : Int) < 16777216 := by omega
          have hc0 : (0 : Int) ≤ c := by omega
          have hc1 : (c : Int) < 256 := by omega
          clear hbe hx8 hc hlt hxl
          go_wp2_with fail
          go_round
          case rel => exact ⟨k + 1, by omega, by go_num, by rw [HBE.out]; go_num⟩
          case measure => simp [intOf]; omega
        · have hk4' : k = 4 := by omega
          have hdd : ((l.drop at').drop 8).take 4 = (l.drop (at' + 8)).take k := by rw [List.drop_drop, hk4']
          obtain ⟨nb, hnb⟩ : ∃ nb, beN ((l.drop (at' + 8)).take k) = nb := ⟨_, rfl⟩
          rw [hnb]
          have hbe : beN (((l.drop at').drop 8).take 4) = nb := by rw [hdd, hnb]
          have hnb2 : nb < 4294967296 := by
            have h1 := beN_lt (((l.drop at').drop 8).take 4)
            have h2 : (((l.drop at').drop 8).take 4).length ≤ 4 := by rw [List.length_take]; omega
            have h3 : 256 ^ (((l.drop at').drop 8).take 4).length ≤ 256 ^ 4 := Nat.pow_le_pow_right (by decide) h2
            omega
          have HBE := Lib.hid hbe
          have hn0 : (0 : Int) ≤ nb := by omega
          have hn1 : (nb : Int) < 4294967296 := by omega
          clear hdd hnb hbe hk4' hnb2
          by_cases hbig : n - at' - 12 < nb
          · have gb : (n : Int) - at' - 12 < nb := by omega
            have hnx := Lib.hid (show nextR (l.drop at') = none by unfold nextR; rw [HDL.out, HBE.out, if_neg h12, if_pos hbig])
            clear hn1
            go_wp2_with fail
            simp only [Exit.jump]
            go_ret2
            exact HS.out.stop hnx.out (Below.refl _ _)
          · have gb : ¬ (n : Int) - at' - 12 < nb := by omega
            clear hn1
            have hn1 : (nb : Int) ≤ 100000 := by omega
            have gb2 : (at' : Int) + 12 + nb ≤ n := by omega
            obtain ⟨m, hm⟩ : ∃ m, at' + 12 + nb - (at' + 8) = m := ⟨_, rfl⟩
            have hmb : m = 4 + nb := by omega
            have hTl : ((l.drop (at' + 8)).take m).length = m := by rw [List.length_take, List.length_drop, HL.out]; omega
            have hTg : ∀ i, i < m → xl ((l.drop (at' + 8)).take m) i = xl l (at' + 8 + i) := fun i hi => by
              unfold xl
              rw [List.getD_eq_getElem?_getD, List.getD_eq_getElem?_getD, List.getElem?_take, if_pos hi, List.getElem?_drop]
            have hb5 := alloc_below wv (.cells #[.slice (some ⟨b, o + (at' + 8), none⟩) m (cap - (at' + 8))] 25)
            have hbs : Bs (wv.alloc (.cells #[.slice (some ⟨b, o + (at' + 8), none⟩) m (cap - (at' + 8))] 25)) (some ⟨b, o + (at' + 8), none⟩) m (xl ((l.drop (at' + 8)).take m)) :=
              ⟨fun i _ => xl_u8 _ i, fun _ => ⟨b, o + (at' + 8), rfl, by simp; omega, fun i hi => by
                rw [hTg i hi, hb5.cell (p := ⟨b, o + (at' + 8) + i, none⟩) hbw, Nat.add_assoc]
                exact hcw.out (at' + 8 + i) _ (bcs_get (by rw [HL.out]; omega))⟩⟩
            have hbe5 : Below w.heap.size w (wv.alloc (.cells #[.slice (some ⟨b, o + (at' + 8), none⟩) m (cap - (at' + 8))] 25)) := HS.out.bel.trans (hb5.mono HS.out.bel.size)
            have ho5 := Lib.hid (of_any wv.heap.size 0 1 (some ⟨b, o + (at' + 8), none⟩) m (cap - (at' + 8)) (xl ((l.drop (at' + 8)).take m)) _ (by rw [World.cell?_alloc_at _ _ _ _ rfl]; rfl) hbs (by omega) (by omega) (fun i hi => (hbe5.cell (p := ⟨0, i, none⟩) hw0).trans (HT.out i hi)) (by simp))
            have HTL := Lib.hid hTl
            have HM := Lib.hid hm
            have HMB := Lib.hid hmb
            clear hTg hTl hbs hmb
            go_wp2_with fail
            clear hm
            refine ho5.out.mono ?_
            rintro e w6 ⟨rfl, hb6⟩
            have hsz6 : SizeIs (arrK .u8 32 (digI (xl ((l.drop (at' + 8)).take m)) m)) 32 := arrK_size _ _ _
            have hon6 := arrK_ones .u8 32 (digI (xl ((l.drop (at' + 8)).take m)) m)
            have hsl8 := slice_dig8 w6.heap.size
            have hb7 := alloc_below w6 (.cells (arrK .u8 32 (digI (xl ((l.drop (at' + 8)).take m)) m)) 67)
            have hb67 : Below wv.heap.size wv (w6.alloc (.cells (arrK .u8 32 (digI (xl ((l.drop (at' + 8)).take m)) m)) 67)) := (since (since (Below.refl _ _) (Nat.le_refl _) hb5).1 (since (Below.refl _ _) (Nat.le_refl _) hb5).2 hb6).1.trans (hb7.mono (since (since (Below.refl _ _) (Nat.le_refl _) hb5).1 (since (Below.refl _ _) (Nat.le_refl _) hb5).2 hb6).2)
            have A7 : Arr (w6.alloc (.cells (arrK .u8 32 (digI (xl ((l.drop (at' + 8)).take m)) m)) 67)) w6.heap.size 67 .u8 32 (digI (xl ((l.drop (at' + 8)).take m)) m) := heap_alloc_new _ _
            have bl7 : BL (w6.alloc (.cells (arrK .u8 32 (digI (xl ((l.drop (at' + 8)).take m)) m)) 67)) (some ⟨w6.heap.size, 0, none⟩) (dig8 ((l.drop (at' + 8)).take m)) := ⟨fun _ => ⟨w6.heap.size, 0, rfl, by simp, fun j u hu => by
              rw [dig8_cells, HTL.out, bytesL_get] at hu
              split at hu
              · rename_i hj
                obtain rfl := Option.some.inj hu
                rw [Nat.zero_add]
                exact A7.cell (by omega)
              · cases hu⟩⟩
            have cv1 : ∀ N, (convert 25 9 (.slice (some ⟨w6.heap.size, 0, none⟩) 8 32)).run Tryd.prog ((w6.alloc (.cells (arrK .u8 32 (digI (xl ((l.drop (at' + 8)).take m)) m)) 67)).drewN N) = .ok (.string ⟨(dig8 ((l.drop (at' + 8)).take m)).toArray⟩) ((w6.alloc (.cells (arrK .u8 32 (digI (xl ((l.drop (at' + 8)).take m)) m)) 67)).drewN N) := fun N => by
              have := conv_bytes (w := (w6.alloc (.cells (arrK .u8 32 (digI (xl ((l.drop (at' + 8)).take m)) m)) 67)).drewN N) (bl7.below (below_drewN (Below.refl _ _) N)) (fun h => by cases h) 32
              rw [dig8_len] at this
              exact this
            have h8l : ((l.drop at').take 8).length = 8 := by rw [List.length_take, HDL.out]; omega
            have bl8 : BL (w6.alloc (.cells (arrK .u8 32 (digI (xl ((l.drop (at' + 8)).take m)) m)) 67)) (some ⟨b, o + at', none⟩) ((l.drop at').take 8) := ⟨fun _ => ⟨b, o + at', rfl, Nat.lt_of_lt_of_le hbw hb67.size, fun j u hu => by
              rw [hb67.cell (p := ⟨b, o + at' + j, none⟩) hbw, Nat.add_assoc]
              refine hcw.out (at' + j) u ?_
              unfold bcs at hu ⊢
              rw [List.getElem?_map, List.getElem?_take, List.getElem?_drop] at hu
              rw [List.getElem?_map]
              split at hu
              · exact hu
              · cases hu⟩⟩
            have cv2 : ∀ N, (convert 25 9 (.slice (some ⟨b, o + at', none⟩) 8 (cap - at'))).run Tryd.prog ((w6.alloc (.cells (arrK .u8 32 (digI (xl ((l.drop (at' + 8)).take m)) m)) 67)).drewN N) = .ok (.string ⟨((l.drop at').take 8).toArray⟩) ((w6.alloc (.cells (arrK .u8 32 (digI (xl ((l.drop (at' + 8)).take m)) m)) 67)).drewN N) := fun N => by
              have := conv_bytes (w := (w6.alloc (.cells (arrK .u8 32 (digI (xl ((l.drop (at' + 8)).take m)) m)) 67)).drewN N) (bl8.below (below_drewN (Below.refl _ _) N)) (fun h => by cases h) (cap - at')
              rw [h8l] at this
              exact this
            have gc2 : ¬ cap = at' := by omega
            have HB67 := Lib.hid hb67
            obtain ⟨s1, hs1⟩ : ∃ s : ByteArray, ⟨(dig8 ((l.drop (at' + 8)).take m)).toArray⟩ = s := ⟨_, rfl⟩
            obtain ⟨s2, hs2⟩ : ∃ s : ByteArray, ⟨((l.drop at').take 8).toArray⟩ = s := ⟨_, rfl⟩
            rw [hs1] at cv1
            rw [hs2] at cv2
            have h44 : ((l.drop at').drop 8).take (4 + nb) = (l.drop (at' + 8)).take m := by rw [List.drop_drop, HMB.out]
            have hcase : ((s1.toList == s2.toList) = true ∧ nextR (l.drop at') = some ((l.drop (at' + 12)).take nb)) ∨ ((s1.toList == s2.toList) = false ∧ nextR (l.drop at') = none) := by
              have ht1 : s1.toList = dig8 ((l.drop (at' + 8)).take m) := by rw [← hs1]; exact toList_mk _
              have ht2 : s2.toList = (l.drop at').take 8 := by rw [← hs2]; exact toList_mk _
              rw [ht1, ht2]
              by_cases e : dig8 ((l.drop (at' + 8)).take m) = (l.drop at').take 8
              · left
                refine ⟨by rw [beq_iff_eq]; exact e, ?_⟩
                unfold nextR
                rw [HDL.out, HBE.out, if_neg h12, if_neg hbig, h44, if_pos e, List.drop_drop]
              · right
                refine ⟨by rw [beq_eq_false_iff_ne]; exact e, ?_⟩
                unfold nextR
                rw [HDL.out, HBE.out, if_neg h12, if_neg hbig, h44, if_neg e]
            have HCASE := Lib.hid hcase
            clear A7 bl7 bl8 h8l hb7 hb67 hs1 hs2 h44 hcase
            go_wp2_with fail
            have hb8 := below_drewN (Below.refl (w6.alloc (.cells (arrK .u8 32 (digI (xl ((l.drop (at' + 8)).take m)) m)) 67)).heap.size (w6.alloc (.cells (arrK .u8 32 (digI (xl ((l.drop (at' + 8)).take m)) m)) 67)))
            go_quiet (fail)
            have HB8 := Lib.hid ((since (Below.refl _ _) (Nat.le_refl _) HB67.out).1.trans ((hb8 nq).mono HB67.out.size))
            clear hb8 cv1 cv2
            generalize (w6.alloc (.cells (arrK .u8 32 (digI (xl ((l.drop (at' + 8)).take m)) m)) 67)).drewN nq = W8 at *
            rcases HCASE.out with ⟨he, hnx⟩ | ⟨he, hnx⟩
            · have HNX := Lib.hid hnx
              have he3 : (!(s1.toList == s2.toList)) = false := by rw [he]; rfl
              clear hnx
              have hrl : ((l.drop (at' + 12)).take nb).length = nb := by rw [List.length_take, List.length_drop, HL.out]; omega
              obtain ⟨outs, hol, hout, hrec⟩ := HS.out.recs
              have hsz8 := HB8.out.size
              have hgo : ∀ (ad : Addr), ((ad = ⟨b, o + (at' + 12), none⟩) ∨ nb = 0) → ∀ (c8 : Nat), ∃ A9 cap9 w9 v10 w10,
                  (apRow #[25, 25] 25 #[.slice (some ⟨W8.heap.size, 0, none⟩) 0 0, .slice (some ad) nb c8]).run Tryd.prog (W8.alloc (.cells #[] 5)) = .ok (.slice A9 nb cap9) w9 ∧
                  (apRow #[22, 22] 22 #[vo, .slice (some ⟨w9.heap.size, 0, none⟩) 1 1]).run Tryd.prog (w9.alloc (.cells #[.slice A9 nb cap9] 25)) = .ok v10 w10 ∧
                  SpR l w v10 (at' + 12 + nb) w10 := by
                intro ad had c8
                have hb9 := alloc_below W8 (.cells #[] 5)
                have hob : OB (W8.alloc (.cells #[] 5)) W8.heap.size (.slice (some ⟨W8.heap.size, 0, none⟩) 0 0) [] := World.ownsRow_made W8 #[] 0 (Nat.le_refl _) (by decide) rfl
                obtain ⟨v1, w9, r1, o1, g1, -⟩ := ob_append (m := (l.drop (at' + 12)).take nb) 25 hob ad c8 (fun j u hu => by
                  have hj := (List.getElem?_eq_some_iff.1 hu).1
                  rw [bcs_len, hrl] at hj
                  rcases had with rfl | h0
                  · rw [Addr.add_mid, hb9.cell (p := ⟨b, o + (at' + 12) + j, none⟩) (by show b < W8.heap.size; omega), HB8.out.cell (p := ⟨b, o + (at' + 12) + j, none⟩) hbw, Nat.add_assoc]
                    refine hcw.out (at' + 12 + j) u ?_
                    unfold bcs at hu ⊢
                    rw [List.getElem?_map, List.getElem?_take, if_pos hj, List.getElem?_drop] at hu
                    rw [List.getElem?_map]
                    exact hu
                  · omega) (by rw [hrl]; simp only [List.length_nil]; omega) (by simp)
                rw [List.nil_append] at o1
                obtain ⟨A9, cap9, rfl, -⟩ := ob_shape o1 hrl
                rw [hrl] at r1
                have hbe9 : Below W8.heap.size W8 w9 := hb9.grown g1 (by simp) (fun k hk => by simp [Value.ownBlock] at hk; omega)
                have hbv9 : Below wv.heap.size wv w9 := HB8.out.trans (hbe9.mono hsz8)
                have hnone : A9 = none → cap9 = 0 ∧ (l.drop (at' + 12)).take nb = [] := fun hA => by
                  rcases o1.2 with ⟨hv, h0⟩ | ⟨g9, _, _, hv, -⟩
                  · exact ⟨(Value.slice.inj hv).2.2, List.length_eq_zero_iff.1 h0⟩
                  · rw [hA] at hv; exact absurd (Value.slice.inj hv).1 (by simp)
                obtain ⟨v10, w10, r2, o2, hb10, -⟩ := outL_push (cap := cap9) (l := (l.drop (at' + 12)).take nb) 22 (hol.below hbv9) (o1.bl hrl) hnone (fun b9 o9 hA9 h0 => ⟨fun e => by
                  have h1 := (outL_lt hol e).2
                  have h2 := (ob_lt o1 (g := b9) (by rw [hA9]; rfl)).1
                  omega, by
                  have h2 := (ob_lt o1 (g := b9) (by rw [hA9]; rfl)).1
                  have h3 := HS.out.bel.size
                  omega⟩) (by have := HS.out.le; rw [HL.out] at this; omega) (HS.out.bel.trans (hbv9.mono HS.out.bel.size)).size
                rw [hrl] at r2
                refine ⟨A9, cap9, w9, v10, w10, r1, r2, ⟨by rw [HL.out]; omega, ⟨outs ++ [(l.drop (at' + 12)).take nb], o2, by rw [List.length_append, List.length_singleton]; omega, fun oo mm hh => ?_⟩, (HS.out.bel.trans (hbv9.mono HS.out.bel.size)).trans hb10⟩⟩
                have h3 : (l.drop at').drop (12 + ((l.drop (at' + 12)).take nb).length) = l.drop (at' + 12 + nb) := by rw [List.drop_drop, hrl, Nat.add_assoc]
                have h4 := hrec _ _ (Recs.some HNX.out (by rw [h3]; exact hh))
                rw [hrl] at h4
                rw [List.append_assoc, List.singleton_append, show at' + 12 + nb + mm = at' + (12 + nb + mm) by omega]
                exact h4
              have HGO := Lib.hid hgo
              clear hgo hol hout hrec hrl
              have hc12 : cap = at' + 12 ∨ ¬ cap = at' + 12 := Classical.em _
              rcases hc12 with hc12 | hc12
              · have hnb0 : nb = 0 := by omega
                obtain ⟨A9, cap9, w9, v10, w10, r1, r2, hS10⟩ := HGO.out ⟨b, o, none⟩ (.inr hnb0) 0
                have HS10 := Lib.hid hS10
                clear hS10 hnb0
                subst hc12
                go_wp2_with fail
                · exact absurd ((‹(!s1.toList == s2.toList) = true›).symm.trans he3) (by decide)
                have e17 : (at' : Int) + (12 + nb) = ((at' + 12 + nb : Nat) : Int) := by omega
                rw [e17]
                go_step3
                refine ⟨rfl, ⟨v10, at' + 12 + nb, _, _, _, _, _, _, _, _, _, _, _, _, _, _, _, _, _, _, _, _, _, _, _, _, _, _, _, _, _, _, _, _, _, _, _, _, _, _, _, _, _, _, _, _, _, _, _, _, _, _, _, _, _, _, _, _, _, _, _, _, _, _, _, _, _, _, _, _, _, _, _, _, _, _, _, rfl, HS10.out⟩, ?_⟩
                simp only [atOf, intOf]
                simp
                omega
              · obtain ⟨A9, cap9, w9, v10, w10, r1, r2, hS10⟩ := HGO.out ⟨b, o + (at' + 12), none⟩ (.inl rfl) (cap - (at' + 12))
                have HS10 := Lib.hid hS10
                clear hS10
                go_wp2_with fail
                · exact absurd ((‹(!s1.toList == s2.toList) = true›).symm.trans he3) (by decide)
                have e17 : (at' : Int) + (12 + nb) = ((at' + 12 + nb : Nat) : Int) := by omega
                rw [e17]
                go_step3
                refine ⟨rfl, ⟨v10, at' + 12 + nb, _, _, _, _, _, _, _, _, _, _, _, _, _, _, _, _, _, _, _, _, _, _, _, _, _, _, _, _, _, _, _, _, _, _, _, _, _, _, _, _, _, _, _, _, _, _, _, _, _, _, _, _, _, _, _, _, _, _, _, _, _, _, _, _, _, _, _, _, _, _, _, _, _, _, _, rfl, HS10.out⟩, ?_⟩
                simp only [atOf, intOf]
                simp
                omega
            · have HNX := Lib.hid hnx
              have he3 : (!(s1.toList == s2.toList)) = true := by rw [he]; rfl
              clear hnx
              go_wp2_with fail
              · simp only [Exit.jump]
                go_ret2
                exact HS.out.stop HNX.out HB8.out
              all_goals exact absurd ((‹(!s1.toList == s2.toList) = false›).symm.trans he3) (by decide)

end Go.Proofs.YtldicnhpccionaaDoor
