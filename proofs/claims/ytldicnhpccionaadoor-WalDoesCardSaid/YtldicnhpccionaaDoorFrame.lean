/-
The frame of a record.
-/
import Derived.Test.YtldicnhpccionaaDoorFr
import Derived.Deep.RegionHeld3
namespace Go.Proofs.YtldicnhpccionaaDoor
open Go.RowKit
set_option linter.unusedVariables false
set_option linter.unusedSimpArgs false

@[go_sem ↓] theorem ap_Bf (ty : TypeId) (args : Array Value) : Builtin.append_ #[25, 25] ty args = apRow #[25, 25] ty args := rfl
theorem alloc_below (w : World) (o : Obj) : Below w.heap.size w (w.alloc o) := (Below.refl _ _).alloc (Nat.le_refl _) o
/-- what has grown since the law was called -/
theorem since {B : Nat} {w w1 w2 : World} (h : Below B w w1) (hs : B ≤ w1.heap.size) (h2 : Below w1.heap.size w1 w2) : Below B w w2 ∧ B ≤ w2.heap.size :=
  ⟨h.trans (h2.mono hs), Nat.le_trans hs h2.size⟩
/-- the bytes that a slice leads to, as a list -/
structure BL (w : World) (A : Option Addr) (l : List UInt8) : Prop where
  mem : 0 < l.length → ∃ b o, A = some ⟨b, o, none⟩ ∧ b < w.heap.size ∧ ∀ j u, (bcs l)[j]? = some u → w.cell? ⟨b, o + j, none⟩ = some u
theorem BL.below {w w' : World} {A : Option Addr} {l : List UInt8} (h : BL w A l) (hb : Below w.heap.size w w') : BL w' A l :=
  ⟨fun h0 => by
    obtain ⟨b, o, hA, hlt, hc⟩ := h.mem h0
    exact ⟨b, o, hA, Nat.lt_of_lt_of_le hlt hb.size, fun j u hu => (hb.cell (p := ⟨b, o + j, none⟩) hlt).trans (hc j u hu)⟩⟩
/-- a list's bytes as numbers -/
def xl (l : List UInt8) : Nat → Int := fun i => ((l.getD i 0).toNat : Int)
theorem xl_u8 (l : List UInt8) (i : Nat) : U8 (xl l i) := ⟨by unfold xl; omega, by unfold xl; have := (l.getD i 0).toNat_lt; omega⟩
theorem bcs_get {l : List UInt8} {i : Nat} (h : i < l.length) : (bcs l)[i]? = some (.int .u8 (xl l i)) := by
  unfold bcs xl
  rw [List.getElem?_map, List.getElem?_eq_getElem h, List.getD_eq_getElem?_getD, List.getElem?_eq_getElem h]
  rfl
theorem BL.bs {w : World} {A : Option Addr} {l : List UInt8} (h : BL w A l) : Bs w A l.length (xl l) :=
  ⟨fun i _ => xl_u8 l i, fun h0 => by
    obtain ⟨b, o, hA, hlt, hc⟩ := h.mem h0
    exact ⟨b, o, hA, hlt, fun i hi => hc i _ (bcs_get hi)⟩⟩
theorem OB.bl {w : World} {B : Nat} {l : List UInt8} {A : Option Addr} {n cap : Nat} (h : OB w B (.slice A n cap) l) (hl : l.length = n) : BL w A l :=
  ⟨fun h0 => by
    obtain ⟨g, cur, hA, -, hh, -, -, -, hc⟩ := ob_cells h hl (by omega)
    exact ⟨g, 0, hA, (Array.getElem?_eq_some_iff.1 hh).1, fun j u hu => by have := hc j u hu; rw [Addr.add_mid] at this; exact this⟩⟩
/-- the digest's first bytes -/
def dig8 (l : List UInt8) : List UInt8 := (List.range 8).map fun i => UInt8.ofNat (digI (xl l) l.length i).toNat
theorem dig8_len (l : List UInt8) : (dig8 l).length = 8 := by simp [dig8]
theorem u8_of {x : Int} (h : U8 x) : ((UInt8.ofNat x.toNat).toNat : Int) = x := by
  have := h.1; have := h.2
  simp
  omega
theorem dig8_cells (l : List UInt8) : bcs (dig8 l) = bytesL 8 (digI (xl l) l.length) := by
  unfold bcs dig8 bytesL
  rw [List.map_map]
  exact List.map_congr_left fun i _ => by simp only [Function.comp]; rw [u8_of (digI_ok _ _ i)]
def textL (l : List UInt8) : List UInt8 := len4 l.length ++ l
/-- a record's bytes -/
def frameL (l : List UInt8) : List UInt8 := dig8 (textL l) ++ textL l
theorem textL_len (l : List UInt8) : (textL l).length = 4 + l.length := by unfold textL; rw [List.length_append]; rfl
theorem frameL_len (l : List UInt8) : (frameL l).length = 12 + l.length := by unfold frameL; rw [List.length_append, dig8_len, textL_len]; omega

theorem conv_bytes {w : World} {A : Option Addr} {l : List UInt8} (h : BL w A l) (hA : A = none → l = []) (cap : Nat) : (convert 25 9 (.slice A l.length cap)).run Tryd.prog w = .ok (.string ⟨l.toArray⟩) w := by
  cases A with
  | none =>
    rw [hA rfl]
    exact Lib.run_convert_nil_bytes w 25 9 5 cap Tryd.underlying25 Tryd.underlying5 Tryd.underlying9
  | some ad =>
    refine run_convert_bytes_back w 25 9 5 ad cap l Tryd.underlying25 Tryd.underlying5 Tryd.underlying9 fun j hj => ?_
    obtain ⟨b, o, hA, -, hc⟩ := h.mem (by omega)
    cases hA
    rw [Addr.add_mid]
    refine hc j _ ?_
    unfold bcs
    rw [List.getElem?_map, List.getElem?_eq_getElem hj]
    rfl
theorem slice_dig8 (g : Nat) (w : World) : (Instr.sliceAt 67 (.pointer (some ⟨g, 0, none⟩)) none (some (.int .i64 8)) none).run Tryd.prog w = .ok (.slice (some ⟨g, 0, none⟩) 8 32) w := by
  have hl : Tryd.prog.arrayLen 67 = 32 := by kernel_rfl
  have he : Tryd.prog.elem 67 = 5 := by kernel_rfl
  have ht : Tryd.prog.underlying 67 = some (.array (Tryd.prog.arrayLen 67) (Tryd.prog.elem 67)) := by rw [hl, he]; exact Tryd.underlying67
  obtain ⟨i0, hi, hz0, hz1, hz2⟩ := info_parts infoB
  have := run_sliceAt_array_h w 67 ⟨g, 0, none⟩ ht .i64 8 (by omega) (by rw [hl]; omega)
  rw [this, hl, he]
  simp [sizeOf, typeInfo, hi, hz1, slicedAt, Addr.add]

/-- what frame answers -/
def Bytes' (l : List UInt8) (w : World) (e : Ending) (w' : World) : Prop := ∃ A cap, e = .returned (.slice A l.length cap) ∧ BL w' A l ∧ Below w.heap.size w w'
theorem below_setCells {B : Nat} {b : Nat} (hb : B ≤ b) : ∀ (vs : List Value) (o : Nat) {w w' : World}, Below B w w' → Below B w (w'.setCells b o vs)
  | [], _, _, _, h => h
  | v :: r, o, w, w', h => below_setCells hb r (o + 1) (h.setCell (p := ⟨b, o, none⟩) hb v)
theorem size_setCells (b : Nat) : ∀ (vs : List Value) (o : Nat) (w : World), (w.setCells b o vs).heap.size = w.heap.size
  | [], _, _ => rfl
  | v :: r, o, w => by rw [World.setCells, size_setCells b r]; simp [World.setCell]
/-- the digest's first bytes, and the text behind them -/
theorem frame_append {w : World} {db : Nat} {l : List UInt8} (ty : TypeId) (hd : Arr w db 67 .u8 32 (digI (xl l) l.length)) {b cap : Nat} (hb : ∀ j u, (bcs l)[j]? = some u → w.cell? ((⟨b, 0, none⟩ : Addr).add j) = some u) (hn : l.length ≤ 1000000) {B : Nat} (hBd : B ≤ db) (hBw : B ≤ w.heap.size) :
    ∃ A cap' w', (apRow #[25, 25] ty #[.slice (some ⟨db, 0, none⟩) 8 32, .slice (some ⟨b, 0, none⟩) l.length cap]).run Tryd.prog w = .ok (.slice A (8 + l.length) cap') w' ∧ BL w' A (dig8 l ++ l) ∧ Below B w w' := by
  obtain ⟨i0, hi, hz0, hz1, hz2⟩ := info_parts infoB
  have hold : ∀ j u, (bcs (dig8 l))[j]? = some u → w.cell? ((⟨db, 0, none⟩ : Addr).add j) = some u := fun j u hu => by
    rw [dig8_cells, bytesL_get] at hu
    split at hu
    · rename_i hj
      obtain rfl := Option.some.inj hu
      rw [Addr.add_mid, Nat.zero_add]
      exact hd.cell (by omega)
    · cases hu
  by_cases hr : 8 + l.length ≤ 32
  · have hc : ∀ j, j < l.length → w.cell? ⟨db, 8 + j, none⟩ = some (.int .u8 (digI (xl l) l.length (8 + j))) := fun j hj => hd.cell (by omega)
    have hrun := run_append_room_cells (P := Tryd.prog) w 25 ty 5 i0 Tryd.underlying25 hi db 0 8 32 ⟨b, 0, none⟩ l.length cap (bcs l) (by rw [bcs_len, hz1, Nat.mul_one]) hb (ones_bytes l) hr
      (fun j hj => by rw [bcs_len] at hj; rw [hz1, Nat.zero_add, hc j hj]; rfl) (fun j hj => hd.frozen _)
    rw [hz1, Nat.zero_add, Nat.mul_one] at hrun
    refine ⟨some ⟨db, 0, none⟩, 32, _, hrun, ⟨fun _ => ⟨db, 0, rfl, by rw [size_setCells]; exact hd.lt, fun j u hu => ?_⟩⟩, below_setCells hBd _ _ (Below.refl _ _)⟩
    rw [bcs_app, List.getElem?_append, bcs_len, dig8_len] at hu
    split at hu
    · rename_i hj
      rw [World.cell?_setCells_out db (bcs l) 8 w ⟨db, 0 + j, none⟩ (fun _ _ => .inl (by simp; omega))]
      have := hold j u hu
      rwa [Addr.add_mid] at this
    · rename_i hj
      have hlt := (List.getElem?_eq_some_iff.1 hu).1
      have := World.cell?_setCells_in db (bcs l) 8 w (fun i hi => by rw [bcs_len] at hi; rw [hc i hi]; rfl) (j - 8) hlt
      rw [show 0 + j = 8 + (j - 8) by omega, this]
      rw [List.getElem?_eq_getElem hlt] at hu
      exact hu
  · obtain ⟨v', w', r1, r2, r3⟩ := run_append_arg_grows (P := Tryd.prog) w 25 ty 5 i0 (.int .u8 0) 1 1 Tryd.underlying25 hi hz0 hz1 hz2 rfl (by decide) ⟨db, 0, none⟩ 8 32 (bcs (dig8 l)) (by rw [bcs_len, dig8_len]) hold ⟨b, 0, none⟩ l.length cap (bcs l) (by rw [bcs_len, Nat.mul_one]) hb (by omega) (by simp only [maxLen]; omega) (by omega)
    have hlen : (dig8 l ++ l).length = 8 + l.length := by rw [List.length_append, dig8_len]
    have o2 : OB w' w.heap.size v' (dig8 l ++ l) := by unfold OB; rw [bcs_app, hlen]; exact r2
    obtain ⟨A2, cap2, rfl, -⟩ := ob_shape o2 hlen
    exact ⟨A2, cap2, w', r1, o2.bl hlen, (Below.refl _ _).grown r3 hBw (fun k hk => by cases hk)⟩

set_option maxRecDepth 100000 in
set_option maxHeartbeats 2000000 in
theorem frame_any (A : Option Addr) (n cap : Nat) (l : List UInt8) (w : World) (h : BL w A l) (hl : l.length = n) (hA : A = none → l = []) (hn : n ≤ 100000) (htab : Tab w) (hw0 : 0 < w.heap.size) :
    Calls Tryd.prog 43 #[.slice A n cap] w (Bytes' (frameL l) w) := by
  have hb1 := alloc_below w (.cells #[.slice none 0 0] 95)
  have hconv := conv_bytes (h.below hb1) hA cap
  rw [hl] at hconv
  have hss : (⟨l.toArray⟩ : ByteArray).size = n := hl
  have HT := Lib.hid htab
  have hs2 : (w.alloc (.cells #[.slice none 0 0] 95)).heap.size = w.heap.size + 1 := by simp
  have hb2 := hb1.alloc (by simp) (.cells #[.string ⟨l.toArray⟩] 9)
  have hw2 : ((w.alloc (.cells #[.slice none 0 0] 95)).alloc (.cells #[.string ⟨l.toArray⟩] 9)).cell? ⟨w.heap.size, 0, none⟩ = some (.slice none 0 0) := by
    rw [World.cell?_alloc_past _ _ _ (by simp), World.cell?_alloc_at _ _ _ _ rfl]; rfl
  have hf2 : ((w.alloc (.cells #[.slice none 0 0] 95)).alloc (.cells #[.string ⟨l.toArray⟩] 9)).frozen? ⟨w.heap.size, 0, none⟩ = false := by
    rw [World.frozen?_alloc_past _ _ _ (by simp), World.frozen?_alloc_at _ _ _ _ rfl]
  have hs2' : ((w.alloc (.cells #[.slice none 0 0] 95)).alloc (.cells #[.string ⟨l.toArray⟩] 9)).cell? ⟨w.heap.size + 1, 0, none⟩ = some (.string ⟨l.toArray⟩) := by
    rw [World.cell?_alloc_at _ _ _ _ (by simp)]; rfl
  have htx := Lib.hid (text_any w.heap.size (w.heap.size + 1) 0 1 ⟨l.toArray⟩ _ hw2 hf2 hs2' (by rw [hss]; exact hn))
  have hlist : len4 (⟨l.toArray⟩ : ByteArray).size ++ (⟨l.toArray⟩ : ByteArray).data.toList = textL l := by unfold textL; rw [hss, ← hl]
  have HL := Lib.hid hlist
  have hm := textL_len l
  rw [hl] at hm
  have HM := Lib.hid hm
  have HN := Lib.hid hn
  clear hw2 hf2 hs2' hss hlist hs2 hl hm h hA htab hn
  go_enter Tryd.func43, Tryd.ntmps43
  go_wp2_with fail
  refine htx.out.mono ?_
  rintro e w3 ⟨rfl, v, c3, f3, o3, g3⟩
  rw [HL.out] at o3
  have hb3 : Below w.heap.size w w3 := hb2.grown g3 (by simp; omega) (fun k hk => by injection hk with hk; omega)
  have hz3 : w.heap.size + 1 < w3.heap.size := by have := g3.size; simp at this; omega
  have hby := Lib.hid (bytes_any w.heap.size _ v (textL l) w3 c3 o3 (by rw [HM.out]; omega) (by rw [HM.out]; have := HN.out; omega))
  have C3 := Lib.hid c3
  have O3 := Lib.hid o3
  clear c3 f3 o3 hconv
  go_wp2_with fail
  refine hby.out.mono ?_
  rintro e w4 ⟨A4, cap4, rfl, o4, g4⟩
  have hcc4 : (textL l).length ≤ cap4 := by
    obtain ⟨_, _, hv, hc⟩ := ob_shape o4 rfl
    injection hv with _ _ e3; omega
  obtain ⟨m, hm⟩ : ∃ m, (textL l).length = m := ⟨_, rfl⟩
  have hmn : m = 4 + n := by rw [← hm]; exact HM.out
  have hmb : m ≤ 1000000 := by have := HN.out; omega
  rw [hm] at o4 hcc4 ⊢
  have hb4 : Below w.heap.size w w4 := hb3.grown g4 (by omega) (fun k hk => by cases hk)
  have hz4 : w3.heap.size ≤ w4.heap.size := g4.size
  have c4 : w4.cell? ⟨w.heap.size, 0, none⟩ = some v := (World.cell?_of_block (g4.block w.heap.size (by omega) (by simp))).trans C3.out
  have o4' : OB w4 (w.heap.size + 1) v (textL l) := by
    have := O3.out
    rcases this.2 with h0 | ⟨g, cap', cur, hv, hB, hh, r⟩
    · exact ⟨this.1, .inl h0⟩
    · exact ⟨this.1, .inr ⟨g, cap', cur, hv, by simp at hB; omega, (g4.block g (Array.getElem?_eq_some_iff.1 hh).1 (by simp)).trans hh, r⟩⟩
  have hb5 := alloc_below w4 (.cells #[.slice A4 m cap4] 25)
  have ho5 := Lib.hid (of_any w4.heap.size 0 1 A4 m cap4 (xl (textL l)) (w4.alloc (.cells #[.slice A4 m cap4] 25)) (by rw [World.cell?_alloc_at _ _ _ _ rfl]; rfl) (by have := ((o4.bl hm).below hb5).bs; rw [hm] at this; exact this) hcc4 hmb
    (fun i hi => ((hb4.trans (hb5.mono (by omega))).cell (p := ⟨0, i, none⟩) hw0).trans (HT.out i hi)) (by simp))
  have HMN := Lib.hid hmn
  have HMM := Lib.hid hm
  have O4 := Lib.hid o4'
  have C4 := Lib.hid c4
  clear o4 o4' c4 g4 g3 C3 O3 hmn hm
  go_wp2_with fail
  refine ho5.out.mono ?_
  rintro e w6 ⟨rfl, hb6⟩
  have hsz6 : SizeIs (arrK .u8 32 (digI (xl (textL l)) m)) 32 := arrK_size _ _ _
  have hon6 := arrK_ones .u8 32 (digI (xl (textL l)) m)
  obtain ⟨c8, h8⟩ : ∃ c : Nat, c = 8 := ⟨_, rfl⟩
  obtain ⟨c32, h32⟩ : ∃ c : Nat, c = 32 := ⟨_, rfl⟩
  have hsl8 : ∀ w', (Instr.sliceAt 67 (.pointer (some ⟨w6.heap.size, 0, none⟩)) none (some (.int .i64 8)) none).run Tryd.prog w' = .ok (.slice (some ⟨w6.heap.size, 0, none⟩) c8 c32) w' := by rw [h8, h32]; exact slice_dig8 w6.heap.size
  have H8 := Lib.hid h8
  have H32 := Lib.hid h32
  clear h8 h32
  go_wp2_with fail
  have hb6' := (since (since hb4 (by omega) hb5).1 (since hb4 (by omega) hb5).2 hb6)
  have hz6 : w4.heap.size < w6.heap.size := by have := hb6.size; simp at this; omega
  have hb7 := alloc_below w6 (.cells (arrK .u8 32 (digI (xl (textL l)) m)) 67)
  have c7 : (w6.alloc (.cells (arrK .u8 32 (digI (xl (textL l)) m)) 67)).drew.cell? ⟨w.heap.size, 0, none⟩ = some v := by
    rw [World.cell?_drew, hb7.cell (p := ⟨w.heap.size, 0, none⟩) (by show w.heap.size < w6.heap.size; omega), hb6.cell (p := ⟨w.heap.size, 0, none⟩) (by simp; omega), hb5.cell (p := ⟨w.heap.size, 0, none⟩) (by show w.heap.size < w4.heap.size; omega)]
    exact C4.out
  have o7 : OB (w6.alloc (.cells (arrK .u8 32 (digI (xl (textL l)) m)) 67)).drew (w.heap.size + 1) v (textL l) := by
    have h0 := O4.out
    rcases h0.2 with h1 | ⟨g, cap', cur, hv, hB, hh, r⟩
    · exact ⟨h0.1, .inl h1⟩
    · have hlt := (Array.getElem?_eq_some_iff.1 hh).1
      exact ⟨h0.1, .inr ⟨g, cap', cur, hv, hB, (hb7.block g (by omega)).trans ((hb6.block g (by simp; omega)).trans ((hb5.block g hlt).trans hh)), r⟩⟩
  have hby2 := Lib.hid (bytes_any w.heap.size _ v (textL l) _ c7 o7 (by rw [HMM.out, HMN.out]; omega) (by rw [HMM.out]; exact hmb))
  have A7 : Arr (w6.alloc (.cells (arrK .u8 32 (digI (xl (textL l)) m)) 67)).drew w6.heap.size 67 .u8 32 (digI (xl (textL l)) m) := heap_alloc_new _ _
  have hfa : ∀ (A8 : Option Addr) (cap8 : Nat) (w8 : World), OB w8 (w6.alloc (.cells (arrK .u8 32 (digI (xl (textL l)) m)) 67)).drew.heap.size (.slice A8 (textL l).length cap8) (textL l) → (w6.alloc (.cells (arrK .u8 32 (digI (xl (textL l)) m)) 67)).drew.grownBy w8 none →
      ∃ g A9 cap9 w9, A8 = some ⟨g, 0, none⟩ ∧ (apRow #[25, 25] 25 #[.slice (some ⟨w6.heap.size, 0, none⟩) c8 c32, .slice (some ⟨g, 0, none⟩) (textL l).length cap8]).run Tryd.prog w8 = .ok (.slice A9 (8 + (textL l).length) cap9) w9 ∧ BL w9 A9 (frameL l) ∧ Below w.heap.size w w9 := by
    intro A8 cap8 w8 o8 g8
    obtain ⟨g, cur, rfl, -, -, -, -, -, hc⟩ := ob_cells o8 rfl (by rw [HMM.out, HMN.out]; omega)
    have A8' : Arr w8 w6.heap.size 67 .u8 32 (digI (xl (textL l)) (textL l).length) := by rw [HMM.out]; exact A7.of (g8.block _ A7.lt (by simp))
    have hb8 : Below w.heap.size w w8 := (since hb6'.1 hb6'.2 hb7).1.drew.grown g8 (by have := (since hb6'.1 hb6'.2 hb7).2; exact this) (fun k hk => by cases hk)
    obtain ⟨A9, cap9, w9, r9, bl9, hb9⟩ := frame_append (cap := cap8) (B := w.heap.size) 25 A8' hc (by rw [HMM.out]; exact hmb) (by omega) hb8.size
    exact ⟨g, A9, cap9, w9, rfl, by rw [H8.out, H32.out]; exact r9, bl9, hb8.trans hb9⟩
  have HFA := Lib.hid hfa
  clear hfa c7 o7 A7 hb7 hb6' hz6
  refine wp_region_any (by kernel_rfl) ?_
  change wpAny _ _ _ _ _ _ _ (World.drew _)
  refine wpAny_take (i := 0) (v := .slice (some ⟨w6.heap.size, 0, none⟩) c8 c32) rfl (by kernel_rfl) (by kernel_rfl) (by kernel_rfl) (fun _ _ _ h => h) (Or.inl ⟨by rfl, by intro w; go_simp⟩) ?_
  refine wpAny_take (i := 1) (v := .pointer (some ⟨w.heap.size, 0, none⟩)) rfl (by kernel_rfl) (by kernel_rfl) (by kernel_rfl) (fun _ _ _ h => h) (Or.inl ⟨by rfl, by intro w; go_simp⟩) ?_
  refine wpAny_ready (rs := [2]) (by kernel_rfl) (by simp) ?_
  refine AllReady.cons rfl (fun K hK => ?_) AllReady.nil
  go_simp
  refine hby2.out.mono ?_
  rintro e w8 ⟨A8, cap8, rfl, o8, g8⟩
  obtain ⟨g, A9, cap9, w9, rfl, r9, bl9, hb9⟩ := HFA.out A8 cap8 w8 o8 g8
  refine hK _ _ ?_
  refine wpAny_ready (rs := [3]) (by kernel_rfl) (by simp) ?_
  refine AllReady.cons rfl (fun K hK => ?_) AllReady.nil
  simp only [List.getElem_toArray, List.getElem_cons_succ, List.getElem_cons_zero, Region.wanted, if_true]
  go_simp
  refine hK _ _ ?_
  refine wpAny_ready (rs := [4]) (by kernel_rfl) (by simp) ?_
  refine AllReady.cons rfl (fun K hK => ?_) AllReady.nil
  go_simp
  refine hK _ _ ?_
  refine wpAny_done (by kernel_rfl) ?_ _
  go_wp2_with fail
  go_ret
  exact ⟨A9, cap9, by rw [show (frameL l).length = 8 + (textL l).length by unfold frameL; rw [List.length_append, dig8_len]]; rfl, bl9, hb9⟩

end Go.Proofs.YtldicnhpccionaaDoor
