/-
A law's world; that the program is alive.
-/
import Derived.Test.YtldicnhpccionaaDoorPlain
import Derived.Lib.SmallJoins
namespace Go.Proofs.YtldicnhpccionaaDoor
open Go.RowKit
set_option linter.unusedVariables false
set_option linter.unusedSimpArgs false
/-- a disk in a law's world -/
structure Law (W : World) (db : Nat) (F : Nat → Prop) (p : PD) (w : World) : Prop where
  dk : DkS W.heap.size db F p w
  ge : ∀ i, F i → W.heap.size ≤ i
  bel : Below W.heap.size W w
theorem Law.step {W w w' : World} {db : Nat} {F : Nat → Prop} {p p' : PD} (h : Law W db F p w) (d : DkS W.heap.size db (orNew F w) p' w') (m : Mv F w w') : Law W db (orNew F w) p' w' :=
  ⟨d, fun i hi => hi.elim (h.ge i) (fun c => Nat.le_trans h.bel.size c), h.bel.trans (m.below h.bel.size h.ge)⟩
theorem Law.below {W w w' : World} {db : Nat} {F : Nat → Prop} {p : PD} (h : Law W db F p w) (b : Below w.heap.size w w') : Law W db F p w' :=
  ⟨h.dk.below b, h.ge, h.bel.trans (b.mono h.bel.size)⟩
theorem Law.drew {W w : World} {db : Nat} {F : Nat → Prop} {p : PD} (h : Law W db F p w) : Law W db F p w.drew := h.below (Below.refl _ _).drew
theorem Law.tab {W w : World} {db : Nat} {F : Nat → Prop} {p : PD} (h : Law W db F p w) (t : Tab W) (h0 : 0 < W.heap.size) : Tab w := t.below h.bel h0
theorem Law.pos {W w : World} {db : Nat} {F : Nat → Prop} {p : PD} (h : Law W db F p w) (h0 : 0 < W.heap.size) : 0 < w.heap.size := Nat.lt_of_lt_of_le h0 h.bel.size
/-- a log beside the disk's blocks -/
structure LogS (w : World) (lb db : Nat) (nm : ByteArray) (F : Nat → Prop) : Prop where
  at' : LogAt w lb db nm
  no : ¬ F lb
theorem LogS.step {w w' : World} {lb db : Nat} {nm : ByteArray} {F : Nat → Prop} (h : LogS w lb db nm F) (m : Mv F w w') : LogS w' lb db nm (orNew F w) :=
  ⟨h.at'.mv m h.no, fun c => c.elim h.no (fun c => by have := h.at'.lt; omega)⟩
theorem LogS.below {w w' : World} {lb db : Nat} {nm : ByteArray} {F : Nat → Prop} (h : LogS w lb db nm F) (b : Below w.heap.size w w') : LogS w' lb db nm F :=
  ⟨h.at'.mv (Mv.of_below (fp := fun _ => False) b) (fun c => c), h.no⟩
/-- records beside the disk's blocks -/
theorem lst_step {w w' : World} {v : Value} {ls : List (List UInt8)} {F : Nat → Prop} (h : Lst (fun i => ¬ F i) w v ls) (m : Mv F w w') : Lst (fun i => ¬ orNew F w i) w' v ls :=
  h.mv m (fun i hi hP => ⟨hP, fun c => c.elim hP (fun c => by omega)⟩)
def nmLog : ByteArray := ⟨#[108, 111, 103]⟩
/-- an opening in a law's world -/
theorem Law.opened {W w w' : World} {db : Nat} {F F' : Nat → Prop} {p p' : PD} (h : Law W db F p w) (d : DkS W.heap.size db F' p' w') (hF : ∀ i, F' i → orNew F w i) (m : Mv F w w') : Law W db F' p' w' :=
  ⟨d, fun i hi => (hF i hi).elim (h.ge i) (fun c => Nat.le_trans h.bel.size c), h.bel.trans (m.below h.bel.size h.ge)⟩
theorem newP_open (nm : ByteArray) (m : Nat) : openP newP nm m = (newP, 0) := rfl
theorem newP_fit : newP.fit 0 0 0 := ⟨by decide, by decide, by decide, by decide, by decide, by decide⟩
/-- one record, written out -/
theorem el_one {w : World} {g o cap b : Nat} {c : UInt8} (h : w.cell? ⟨g, o, none⟩ = some (.slice (some ⟨b, 0, none⟩) 1 cap)) (hb : b < w.heap.size) (hc : w.cell? ⟨b, 0, none⟩ = some (.int .u8 (c.toNat : Int))) : El (fun _ => True) w ⟨g, o, none⟩ [c] :=
  ⟨⟨_, cap, h, ⟨fun _ => ⟨b, 0, rfl, hb, fun j u hu => by
    have hj : j = 0 := by have := (List.getElem?_eq_some_iff.1 hu).1; rw [bcs_len] at this; simpa using this
    subst hj
    simp [bcs] at hu
    rw [← hu]; exact hc⟩⟩, fun h => (by cases h), fun _ _ _ _ => trivial⟩⟩
/-- an opening where the power stays -/
def OpenCalm (W : World) (db : Nat) (F : Nat → Prop) (p : PD) (nm : ByteArray) (a s l : Nat) (w : World) (e : Ending) (w' : World) : Prop :=
  ∃ outs m F' p' lb vo, e = .returned (.tuple #[.pointer (some ⟨lb, 0, none⟩), vo, .int .i64 0]) ∧ Law W db F' p' w' ∧ LogS w' lb db nm F' ∧ Lst (fun i => ¬ F' i) w' vo outs ∧ Recs (whole nm p) outs m ∧ cont nm p' = ((whole nm p).take m, []) ∧
    p'.down = false ∧ (p.fuse = 0 → p'.fuse = 0) ∧ p'.keep = p.keep ∧ p'.fit (a + 2) s (l + 2) ∧ Mv F w w' ∧ ∀ i, F' i → orNew F w i
theorem open_law {W w : World} {db : Nat} {F : Nat → Prop} {p : PD} {a s l : Nat} (nm : ByteArray) (h : Law W db F p w) (ft : p.fit a s l) (ha : a ≤ 10000) (hs : s ≤ 100000) (hl : l ≤ 10000) (hnm : nm.size ≤ 1000000) (htab : Tab W) (hw0 : 0 < W.heap.size) (hd : p.down = false) (hf : p.fuse ≠ 1) (hf2 : p.fuse ≠ 2) :
    Calls Tryd.prog 15 #[.pointer (some ⟨db, 0, none⟩), .string nm] w (OpenCalm W db F p nm a s l w) := by
  refine (open_any nm w h.dk ft ha hs hl hnm (h.tab htab hw0) (h.pos hw0)).mono ?_
  rintro e w' ⟨outs, m, F', hr, d, hF, mv, hcase⟩
  obtain ⟨c0, c1, c2, c3, m', hr', c4⟩ := open_calm hd hf hf2 hr
  rcases hcase with ⟨-, lb, vo, rfl, hlog, hnl, -, hls⟩ | ⟨hc, -⟩
  · exact ⟨outs, m', F', _, lb, vo, rfl, h.opened d hF mv, ⟨hlog, hnl⟩, hls.mv (Mv.refl (fun _ => False) _) (fun i _ hP => ⟨fun c => c, hP.1⟩), hr', c4, c1, c2, c3, ft.opened nm m h.dk.nd, mv, hF⟩
  · rw [c0] at hc; cases hc
/-- what an operation leaves in a law's world -/
def LawEnd (W : World) (db lb : Nat) (nm : ByteArray) (F : Nat → Prop) (p' : PD) (a s l : Nat) (v : Value) (w : World) (e : Ending) (w' : World) : Prop :=
  e = .returned v ∧ Law W db (orNew F w) p' w' ∧ LogS w' lb db nm (orNew F w) ∧ p'.fit a s l ∧ Mv F w w'
theorem DkEnd.law {W w : World} {db lb : Nat} {nm : ByteArray} {F : Nat → Prop} {p p' : PD} {a s l : Nat} {v : Value} {e : Ending} {w' : World} (h : DkEnd W.heap.size db F p' v w e w') (L : Law W db F p w) (G : LogS w lb db nm F) (ft : p'.fit a s l) : LawEnd W db lb nm F p' a s l v w e w' :=
  ⟨h.1, L.step h.2.1 h.2.2, G.step h.2.2, ft, h.2.2⟩
section
variable {W w : World} {db lb : Nat} {nm : ByteArray} {F P : Nat → Prop} {p : PD} {a s l : Nat}
theorem lAppend_law (v : Value) (ls : List (List UInt8)) (L : Law W db F p w) (G : LogS w lb db nm F) (ft : p.fit a s l) (ha : a ≤ 10000) (hl : l ≤ 10000) (hnm : nm.size ≤ 1000000) (hL : Lst P w v ls) (htab : Tab W) (h0 : 0 < W.heap.size) (hs : s + (framesL ls).length ≤ 100000) :
    Calls Tryd.prog 19 #[.pointer (some ⟨lb, 0, none⟩), v] w (LawEnd W db lb nm F (appendP p nm (framesL ls)).1 (a + 1) (s + (framesL ls).length) (l + 1) (.int .i64 (appendP p nm (framesL ls)).2) w) :=
  (lAppend_any v ls w G.at' G.no L.dk (ft.ok (by omega) (by omega) (by omega)) hnm hL (L.tab htab h0) (L.pos h0) (by have := ft.sum; omega)).mono fun _ _ h => h.law L G (ft.append nm _ L.dk.nd)
theorem lReset_law (v : Value) (ls : List (List UInt8)) (L : Law W db F p w) (G : LogS w lb db nm F) (ft : p.fit a s l) (ha : a ≤ 10000) (hl : l ≤ 10000) (hnm : nm.size ≤ 1000000) (hL : Lst P w v ls) (htab : Tab W) (h0 : 0 < W.heap.size) (hs : s + (framesL ls).length ≤ 100000) :
    Calls Tryd.prog 23 #[.pointer (some ⟨lb, 0, none⟩), v] w (LawEnd W db lb nm F (installP p nm (framesL ls)).1 (a + 1) (s + (framesL ls).length) (l + 1) (.int .i64 (installP p nm (framesL ls)).2) w) :=
  (lReset_any v ls w G.at' G.no L.dk (ft.ok (by omega) (by omega) (by omega)) hnm hL (L.tab htab h0) (L.pos h0) (by have := ft.sum; omega)).mono fun _ _ h => h.law L G (ft.install nm _ L.dk.nd)
theorem lSync_law (L : Law W db F p w) (G : LogS w lb db nm F) (ft : p.fit a s l) (ha : a ≤ 10000) (hs : s ≤ 100000) (hl : l ≤ 10000) (hnm : nm.size ≤ 1000000) :
    Calls Tryd.prog 20 #[.pointer (some ⟨lb, 0, none⟩)] w (LawEnd W db lb nm F (syncP p nm).1 (a + 1) s (l + 1) (.int .i64 (syncP p nm).2) w) :=
  (lSync_any w G.at' L.dk (ft.ok (by omega) (by omega) (by omega)) hnm).mono fun _ _ h => h.law L G (ft.sync nm L.dk.nd)
theorem off_law (k : Int) (L : Law W db F p w) (G : LogS w lb db nm F) (ft : p.fit a s l) (ha : a ≤ 10000) (hs : s ≤ 100000) (hl : l ≤ 10000) :
    Calls Tryd.prog 21 #[.pointer (some ⟨db, 0, none⟩), .int .i64 k] w (LawEnd W db lb nm F (p.lose k) a s l (.tuple #[]) w) :=
  (off_S k w L.dk (ft.ok (by omega) (by omega) (by omega))).mono fun _ _ h => h.law L G (ft.lose k)
theorem on_law (L : Law W db F p w) (G : LogS w lb db nm F) (ft : p.fit a s l) :
    Calls Tryd.prog 22 #[.pointer (some ⟨db, 0, none⟩)] w (LawEnd W db lb nm F { p with down := false } a s l (.tuple #[]) w) :=
  (on_S w L.dk).mono fun _ _ h => h.law L G ft.on
theorem arm_law (n k : Int) (hn : n ≤ 9223372036854775807) (L : Law W db F p w) (G : LogS w lb db nm F) (ft : p.fit a s l) :
    Calls Tryd.prog 18 #[.pointer (some ⟨db, 0, none⟩), .int .i64 n, .int .i64 k] w (LawEnd W db lb nm F (p.arm n k) a s l (.tuple #[]) w) :=
  (arm_S n k w L.dk).mono fun _ _ h => h.law L G (ft.arm n k hn)
end
/-- a byte, written out -/
def lit1 (c : Int) : Obj := .cells #[.int .u8 c] 5 (1, 2)
theorem conv_lit (w : World) (c : Int) (g : Nat) (hg : g = w.heap.size) : (convert 25 25 (.slice (some ⟨g, 0, none⟩) 1 1)).run Tryd.prog (w.alloc (.cells #[.int .u8 c] 5)) = .ok (.slice (some ⟨g, 0, none⟩) 1 1) (w.alloc (lit1 c)) :=
  Go.Joins.run_convert_bytes_const_at w 25 5 #[.int .u8 c] 1 1 g hg Tryd.underlying25 Tryd.underlying5
def rowOf (g : Nat) : Value := .slice (some ⟨g, 0, none⟩) 1 1
theorem two_lits (w : World) : Lst (fun _ => True) (((w.alloc (lit1 97)).alloc (lit1 98)).alloc (.cells #[rowOf w.heap.size, rowOf (w.heap.size + 1)] 25)) (.slice (some ⟨w.heap.size + 2, 0, none⟩) 2 2) [[97], [98]] ∧ Below w.heap.size w (((w.alloc (lit1 97)).alloc (lit1 98)).alloc (.cells #[rowOf w.heap.size, rowOf (w.heap.size + 1)] 25)) := by
  have b1 := alloc_below w (lit1 97)
  have b2 := alloc_below (w.alloc (lit1 97)) (lit1 98)
  have b3 := alloc_below ((w.alloc (lit1 97)).alloc (lit1 98)) (.cells #[rowOf w.heap.size, rowOf (w.heap.size + 1)] 25)
  have s1 : (w.alloc (lit1 97)).heap.size = w.heap.size + 1 := by simp
  have s2 : ((w.alloc (lit1 97)).alloc (lit1 98)).heap.size = w.heap.size + 2 := by simp
  have s3 : (((w.alloc (lit1 97)).alloc (lit1 98)).alloc (.cells #[rowOf w.heap.size, rowOf (w.heap.size + 1)] 25)).heap.size = w.heap.size + 3 := by simp
  have c1 : (w.alloc (lit1 97)).cell? ⟨w.heap.size, 0, none⟩ = some (.int .u8 97) := by unfold lit1; rw [World.cell?_alloc_mark]; rfl
  have c2 : ((w.alloc (lit1 97)).alloc (lit1 98)).cell? ⟨w.heap.size + 1, 0, none⟩ = some (.int .u8 98) := by rw [← s1]; unfold lit1; rw [World.cell?_alloc_mark]; rfl
  have c3 : ∀ j, (((w.alloc (lit1 97)).alloc (lit1 98)).alloc (.cells #[rowOf w.heap.size, rowOf (w.heap.size + 1)] 25)).cell? ⟨w.heap.size + 2, j, none⟩ = #[rowOf w.heap.size, rowOf (w.heap.size + 1)][j]? := fun j => by
    rw [World.cell?_alloc_at _ _ _ _ (by simp)]
  refine ⟨⟨⟨_, 2, rfl, Nat.le_refl _, fun _ => ⟨w.heap.size + 2, 0, rfl, by omega, trivial, fun i hi => ?_⟩⟩⟩, (b1.trans (b2.mono (by omega))).trans (b3.mono (by omega))⟩
  have hi' : i = 0 ∨ i = 1 := by simp at hi; omega
  rcases hi' with rfl | rfl
  · exact el_one (b := w.heap.size) (cap := 1) (c := 97) ((c3 0).trans rfl) (by omega) (((b2.trans (b3.mono (by omega))).cell (p := ⟨w.heap.size, 0, none⟩) (by show w.heap.size < (w.alloc (lit1 97)).heap.size; omega)).trans c1)
  · exact el_one (b := w.heap.size + 1) (cap := 1) (c := 98) ((c3 1).trans rfl) (by omega) ((b3.cell (p := ⟨w.heap.size + 1, 0, none⟩) (by show w.heap.size + 1 < ((w.alloc (lit1 97)).alloc (lit1 98)).heap.size; omega)).trans c2)
theorem one_lit (w : World) : Lst (fun _ => True) ((w.alloc (lit1 99)).alloc (.cells #[rowOf w.heap.size] 25)) (.slice (some ⟨w.heap.size + 1, 0, none⟩) 1 1) [[99]] ∧ Below w.heap.size w ((w.alloc (lit1 99)).alloc (.cells #[rowOf w.heap.size] 25)) := by
  have b1 := alloc_below w (lit1 99)
  have b3 := alloc_below (w.alloc (lit1 99)) (.cells #[rowOf w.heap.size] 25)
  have s1 : (w.alloc (lit1 99)).heap.size = w.heap.size + 1 := by simp
  have s3 : ((w.alloc (lit1 99)).alloc (.cells #[rowOf w.heap.size] 25)).heap.size = w.heap.size + 2 := by simp
  have c1 : (w.alloc (lit1 99)).cell? ⟨w.heap.size, 0, none⟩ = some (.int .u8 99) := by unfold lit1; rw [World.cell?_alloc_mark]; rfl
  have c3 : ∀ j, ((w.alloc (lit1 99)).alloc (.cells #[rowOf w.heap.size] 25)).cell? ⟨w.heap.size + 1, j, none⟩ = #[rowOf w.heap.size][j]? := fun j => by
    rw [World.cell?_alloc_at _ _ _ _ (by simp)]
  refine ⟨⟨⟨_, 1, rfl, Nat.le_refl _, fun _ => ⟨w.heap.size + 1, 0, rfl, by omega, trivial, fun i hi => ?_⟩⟩⟩, b1.trans (b3.mono (by omega))⟩
  have hi' : i = 0 := by simp at hi; omega
  subst hi'
  exact el_one (b := w.heap.size) (cap := 1) (c := 99) ((c3 0).trans rfl) (by omega) ((b3.cell (p := ⟨w.heap.size, 0, none⟩) (by show w.heap.size < (w.alloc (lit1 99)).heap.size; omega)).trans c1)
theorem two_texts (w : World) : Strs (fun _ => True) (w.alloc (.cells #[.string ⟨#[97]⟩, .string ⟨#[98]⟩] 9)) (.slice (some ⟨w.heap.size, 0, none⟩) 2 2) [tx [97], tx [98]] := by
  refine ⟨⟨_, 2, rfl, fun _ => ⟨w.heap.size, 0, rfl, by simp, trivial, fun i hi => ?_⟩⟩⟩
  have hi' : i = 0 ∨ i = 1 := by simp at hi; omega
  rw [World.cell?_alloc_at _ _ _ _ rfl]
  rcases hi' with rfl | rfl <;> rfl
set_option maxRecDepth 100000 in
set_option maxHeartbeats 1000000 in
theorem alive_any (W : World) (htab : Tab W) (h0 : 0 < W.heap.size) : Calls Tryd.prog 8 #[] W fun e w' => e = .returned (.bool true) ∧ Below W.heap.size W w' := by
  have HT := Lib.hid htab
  have hnew := new_any W
  clear htab
  go_enter Tryd.func8, Tryd.ntmps8
  go_wp2_with fail
  refine hnew.mono ?_
  rintro e w1 ⟨db, rfl, hdb, d1, b1⟩
  have L1 : Law W db (fun i => W.heap.size ≤ i) newP w1 := ⟨d1, fun i h => h, b1⟩
  have hop := Lib.hid (open_law nmLog L1 newP_fit (by omega) (by omega) (by omega) (by decide) HT.out h0 rfl (by decide) (by decide))
  clear hnew d1 b1 L1
  go_wp2_with fail
  refine hop.out.mono ?_
  rintro e w2 ⟨outs, m, F2, p2, lb, vo, rfl, L2, G2, hls, hr, hco, hdn, hfu, -, ft2, -, -⟩
  have hw0 : whole nmLog newP = [] := rfl
  rw [hw0, List.take_nil] at hco
  have cv1 := conv_lit w2 97 w2.heap.size rfl
  have cv2 := conv_lit (w2.alloc (lit1 97)) 98 (w2.heap.size + 1) (by simp)
  obtain ⟨ls2, bs2⟩ := two_lits w2
  have hl26 : (framesL [[97], [98]]).length = 26 := by simp [framesL, frameL_len]
  have hap := Lib.hid (lAppend_law _ _ (L2.below bs2) (G2.below bs2) ft2 (by omega) (by omega) (by decide) ls2 HT.out h0 (by omega))
  obtain ⟨-, k0, k1, k2, -, k4⟩ | ⟨k5, -⟩ := append_cases nmLog (framesL [[97], [98]]) p2 hdn
  rotate_left
  · rw [hfu rfl] at k5; cases k5
  have k2 := k2 (hfu rfl)
  rw [hco] at k4
  rw [k0] at hap
  obtain ⟨X, hX⟩ : ∃ X, framesL [[97], [98]] = X := ⟨_, rfl⟩
  rw [hX] at hap k1 k2 k4 hl26
  have HX := Lib.hid hX
  clear hX
  generalize (appendP p2 nmLog X).1 = p3 at hap k1 k2 k4
  clear hls hr hop L2 G2 ls2 bs2 k0 hfu hdn hco hw0 ft2
  unfold rowOf lit1 at *
  go_wp2_with fail
  refine hap.out.mono ?_
  rintro e w3 ⟨rfl, L3, G3, ft3, -⟩
  have hsy := Lib.hid (lSync_law L3 G3 ft3 (by omega) (by omega) (by omega) (by decide))
  obtain ⟨-, s0, s1, s2, -, s4⟩ | ⟨k5, -⟩ := sync_cases nmLog p3 k1
  rotate_left
  · rw [k2] at k5; cases k5
  have s2 := s2 k2
  unfold whole at s4
  rw [k4] at s4
  rw [s0] at hsy
  generalize (syncP p3 nmLog).1 = p4 at hsy s1 s2 s4
  clear hap cv1 cv2 L3 G3 k1 k2 k4 s0 ft3
  go_wp2_with fail
  refine hsy.out.mono ?_
  rintro e w4 ⟨rfl, L4, G4, ft4, -⟩
  have cv3 := conv_lit w4 99 w4.heap.size rfl
  obtain ⟨ls4, bs4⟩ := one_lit w4
  have hl13 : (framesL [[99]]).length = 13 := by simp [framesL, frameL_len]
  have hap := Lib.hid (lAppend_law _ _ (L4.below bs4) (G4.below bs4) ft4 (by omega) (by omega) (by decide) ls4 HT.out h0 (by omega))
  obtain ⟨-, k0, k1, k2, -, k4⟩ | ⟨k5, -⟩ := append_cases nmLog (framesL [[99]]) p4 s1
  rotate_left
  · rw [s2] at k5; cases k5
  have k2 := k2 s2
  rw [s4] at k4
  rw [k0] at hap
  generalize framesL [[99]] = Y at hap k1 k2 k4 hl13
  generalize (appendP p4 nmLog Y).1 = p5 at hap k1 k2 k4
  clear hsy L4 G4 ls4 bs4 k0 ft4 s1 s2 s4
  unfold rowOf lit1 at *
  go_wp2_with fail
  refine hap.out.mono ?_
  rintro e w5 ⟨rfl, L5, G5, ft5, -⟩
  have hof := Lib.hid (off_law 0 L5 G5 ft5 (by omega) (by omega) (by omega))
  obtain ⟨o1, o2, o3⟩ := cont_lose nmLog 0 p5 k1
  rw [k4] at o1
  generalize p5.lose 0 = p6 at hof o1 o2 o3
  clear hap cv3 L5 G5 ft5 k1 k2 k4
  go_wp2_with fail
  refine hof.out.mono ?_
  rintro e w6 ⟨rfl, L6, G6, ft6, -⟩
  have hon := Lib.hid (on_law L6 G6 ft6)
  clear hof L6 G6 ft6
  go_wp2_with fail
  refine hon.out.mono ?_
  rintro e w7 ⟨rfl, L7, G7, ft7, -⟩
  have hf7 : ({ p6 with down := false } : PD).fuse = 0 := o3
  have hop := Lib.hid (open_law nmLog L7 ft7 (by omega) (by omega) (by omega) (by decide) HT.out h0 rfl (by rw [hf7]; decide) (by rw [hf7]; decide))
  have hwh : whole nmLog ({ p6 with down := false } : PD) = X := by
    show (cont nmLog p6).1 ++ (cont nmLog p6).2 = X
    rw [o1]
    simp [keepN]
  clear hon L7 G7 ft7 hf7 o1 o2 o3
  go_wp2_with fail
  refine hop.out.mono ?_
  rintro e w8 ⟨outs, m8, F8, p8, lb8, vo8, rfl, L8, G8, hls8, hr8, -⟩
  have hb8 := alloc_below w8 (.cells #[.string ⟨#[97]⟩, .string ⟨#[98]⟩] 9)
  rw [hwh] at hr8
  have houts : outs = [[97], [98]] := by
    have h1 := recs_frames (ls := [[97], [98]]) (t := []) (fun l hl => by simp at hl; rcases hl with rfl | rfl <;> simp) recs_nil
    rw [List.append_nil, HX.out] at h1
    exact (hr8.det h1).1
  subst houts
  have hsm := Lib.hid (same_any _ _ _ _ _ (hls8.below hb8) (two_texts w8) (by simp) (by simp))
  have HL8 := Lib.hid (L8.below hb8)
  clear hop L8 G8 hls8 hr8 hb8
  go_wp2_with fail
  refine hsm.out.mono ?_
  rintro e w9 ⟨b, rfl, hb, b9⟩
  have hbt : b = true := hb.2 rfl
  subst hbt
  have E := Lib.hid (HL8.out.below b9).bel
  clear b9 hb hsm
  go_wp2_with fail
  go_ret
  exact ⟨rfl, E.out⟩
end Go.Proofs.YtldicnhpccionaaDoor
