/-
The power goes.
-/
import Derived.Test.YtldicnhpccionaaDoorTurn
namespace Go.Proofs.YtldicnhpccionaaDoor
open Go.RowKit
set_option linter.unusedVariables false
set_option linter.unusedSimpArgs false
abbrev Con := List (ByteArray × List UInt8 × List UInt8)
/-- so many of the bytes that wait are kept -/
def keepN (k : Int) (u : List UInt8) : List UInt8 := u.take k.toNat
def offC (k : Int) (x : ByteArray × List UInt8 × List UInt8) : ByteArray × List UInt8 × List UInt8 := (x.1, x.2.1 ++ keepN k x.2.2, [])
def offL (left : Lit → Bool) (k : Int) (cs : Con) : Con := cs.map fun x => if left (keyL x.1) then x else offC k x
/-- names and blocks -/
def ngs (fs : List FileS) : List (ByteArray × Nat) := fs.map fun f => (f.nm, f.g)
theorem ngs_upd {fs : List FileS} (hp : fs.Pairwise fun f f' => f.nm ≠ f'.nm) {f0 f' : FileS} (h0 : f0 ∈ fs) (hn : f0.nm = f'.nm) (hg : f0.g = f'.g) : ngs (updF fs f') = ngs fs := by
  unfold ngs updF
  rw [List.map_map]
  refine List.map_congr_left fun f hf => ?_
  simp only [Function.comp]
  split
  · rename_i e
    obtain rfl := same_of_nm hp hf h0 (e.trans hn.symm)
    rw [← hn, ← hg]
  · rfl
theorem ngs_mem {fs fs' : List FileS} (h : ngs fs' = ngs fs) {f : FileS} (hf : f ∈ fs) : ∃ f' ∈ fs', f'.nm = f.nm ∧ f'.g = f.g := by
  have : (f.nm, f.g) ∈ ngs fs' := by rw [h]; exact List.mem_map.2 ⟨f, hf, rfl⟩
  obtain ⟨f', hf', e⟩ := List.mem_map.1 this
  exact ⟨f', hf', (Prod.mk.inj e).1, (Prod.mk.inj e).2⟩
theorem con_mem {fs : List FileS} {f : FileS} (hf : f ∈ fs) : (f.nm, f.s, f.u) ∈ con fs := List.mem_map.2 ⟨f, hf, rfl⟩
theorem sameKey_nm {a b : ByteArray} (h : a ≠ b) : (keyL a).sameKey (keyL b) = false := Maps.sameKey_ne (fun e => h (keyL_inj e))
theorem off_step {fs fs' : List FileS} {left : Lit → Bool} {k : Int} (hn : fs'.Pairwise fun f f' => f.nm ≠ f'.nm) (hc : con fs' = offL left k (con fs)) {f' : FileS} (hf' : f' ∈ fs') (hl : left (keyL f'.nm) = true) (v : Value) :
    con (updF fs' (f'.safed v (keepN k f'.u))) = offL (fun z => left z && !z.sameKey (keyL f'.nm)) k (con fs) := by
  rw [con_upd]
  have hcc : con fs' = offL left k (con fs) := hc
  rw [hcc]
  unfold offL
  rw [List.map_map]
  refine List.map_congr_left fun x hx => ?_
  simp only [Function.comp]
  by_cases e : x.1 = f'.nm
  · have hlx : left (keyL x.1) = true := by rw [e]; exact hl
    have hx2 : x ∈ con fs' := by
      rw [hcc]; unfold offL
      exact List.mem_map.2 ⟨x, hx, by rw [if_pos hlx]⟩
    obtain ⟨f2, hf2, e2⟩ := List.mem_map.1 hx2
    have h3 : f2 = f' := same_of_nm hn hf2 hf' (by rw [← e, ← e2])
    subst h3
    have e5 : (left (keyL x.1) && !(keyL x.1).sameKey (keyL f2.nm)) = false := by rw [e, WideAt.sameKey_self (keyL_key _)]; simp
    simp only [e5, if_pos hlx]
    rw [← e2]
    exact if_pos rfl
  · have h1 : ∀ c : Bool, (if (left (keyL x.1)) = c then x else offC k x).1 = x.1 := fun c => by split <;> rfl
    have e5 : (left (keyL x.1) && !(keyL x.1).sameKey (keyL f'.nm)) = left (keyL x.1) := by rw [sameKey_nm e]; simp
    simp only [e5]
    exact if_neg (by rw [h1]; exact e)
/-- the same file at the beginning -/
theorem off_len {fs fs' : List FileS} {left : Lit → Bool} {k : Int} (hc : con fs' = offL left k (con fs)) {f' : FileS} (hf' : f' ∈ fs') : f'.len ≤ sumF fs := by
  have hm := con_mem hf'
  rw [hc] at hm
  unfold offL at hm
  obtain ⟨x, hx, e⟩ := List.mem_map.1 hm
  obtain ⟨f, hf, ef⟩ := List.mem_map.1 hx
  have h1 : f'.len ≤ f.len := by
    unfold FileS.len
    rw [← ef] at e
    split at e
    · have := (Prod.mk.inj (Prod.mk.inj e).2)
      rw [← this.1, ← this.2]; exact Nat.le_refl _
    · have := (Prod.mk.inj (Prod.mk.inj e).2)
      rw [← this.1, ← this.2]
      simp only [keepN, List.length_append, List.length_take, List.length_nil]
      omega
  refine Nat.le_trans h1 ?_
  clear h1 ef hx e hm hf' hc
  induction fs with
  | nil => cases hf
  | cons g r ih =>
    simp only [sumF, sumL]
    rcases List.mem_cons.1 hf with rfl | hf
    · simp
    · have := ih hf
      simp only [sumF] at this
      simp; omega
/-- a part of a row behind another row -/
theorem ob_part {w : World} {B B2 : Nat} {v : Value} {l m : List UInt8} (ty : TypeId) (h : OB w B v l) {g cap : Nat} (h2 : OB w B2 (.slice (some ⟨g, 0, none⟩) m.length cap) m) (n : Nat) (hm : n ≤ m.length) (hn : l.length + m.length ≤ 10000000) (hB : B ≤ w.heap.size) :
    ∃ v' w', (apRow #[25, 25] ty #[v, .slice (some ⟨g, 0, none⟩) n cap]).run Tryd.prog w = .ok v' w' ∧ OB w' B v' (l ++ m.take n) ∧ w.grownBy w' v.ownBlock ∧ (v'.ownBlock = v.ownBlock ∨ v'.ownBlock = some w.heap.size) := by
  have hl : (m.take n).length = n := by rw [List.length_take]; omega
  have := ob_append (m := m.take n) ty h ⟨g, 0, none⟩ cap (fun j u hu => by
      have hj := (List.getElem?_eq_some_iff.1 hu).1
      rw [bcs_len, hl] at hj
      obtain ⟨b, o, hA, hlt, hc⟩ := (h2.bl rfl).mem (by omega)
      cases hA
      rw [Addr.add_mid]
      refine hc j u ?_
      unfold bcs at hu ⊢
      rw [List.getElem?_map, List.getElem?_take, if_pos hj] at hu
      rw [List.getElem?_map]
      exact hu) (by rw [hl]; omega) hB
  rw [hl] at this
  exact this
theorem ranges_mv {w w' : World} {mb r n cnt : Nat} {D : DataW Unit} {left : Lit → Bool} {fp : Nat → Prop} (h : w.ranges Tryd.prog 9 ptrE mb r n D left cnt) (m : Mv fp w w') (h1 : ¬ fp mb) (h2 : ¬ fp r) : w'.ranges Tryd.prog 9 ptrE mb r n D left cnt := by
  have l1 := h.owns.lt
  have l2 := h.lt
  obtain ⟨es, clock, since, seen, c0, hb, F, hs, hD, hr, rest⟩ := h
  exact ⟨es, clock, since, seen, c0, (m.block mb l1 h1).trans hb, F, hs, hD, (m.block r l2 h2).trans hr, rest⟩
/-- what holds in the loop -/
structure OffR (B db mb : Nat) (acts fuse keep : Int) (fs : List FileS) (k : Int) (w : World) (left : Lit → Bool) (fs' : List FileS) (wr : World) : Prop where
  dk : Dk B db mb false acts fuse keep fs' wr
  con : con fs' = offL left k (con fs)
  ngs : ngs fs' = ngs fs
  mv : Mv (dkFp db mb fs) w wr
  fp : ∀ i, dkFp db mb fs' i → dkFp db mb fs i ∨ w.heap.size < i
theorem slice_part {w w' : World} {B n cap : Nat} {A : Option Addr} {l : List UInt8} (h : OB w B (.slice A l.length cap) l) (hn : n ≤ l.length) (hc : l.length ≤ cap) {z : Int} (hz : z = n) :
    (Instr.sliceAt 25 (.slice A l.length cap) none (some (.int .i64 z)) none).run Tryd.prog w' = .ok (.slice A n cap) w' := by
  subst hz
  obtain ⟨i0, hi, hz0, hz1, hz2⟩ := info_parts infoB
  have he : Tryd.prog.elem 25 = 5 := by kernel_rfl
  have ht : Tryd.prog.underlying 25 = some (.slice (Tryd.prog.elem 25)) := by rw [he]; exact Tryd.underlying25
  have hA : A.map (·.add 0) = A := by
    rcases h.2 with ⟨hv, h0⟩ | ⟨g, cap', cur, hv, hB, hh, hcc, hmx, hs, hx⟩
    · rw [(Value.slice.inj hv).1]; rfl
    · rw [(Value.slice.inj hv).1]; rfl
  rw [run_sliceAt_slice _ _ _ _ _ _ ht, run_slice_h _ _ _ _ _ ht .i64 n (by omega) (by omega), he]
  have hs : (sizeOf 5).run Tryd.prog w' = .ok 1 w' := by simp [sizeOf, typeInfo, hi, hz1]
  rw [hs]
  simp only [Result.andThen_ok, sliced, Nat.zero_mul, Int.toNat_natCast, Nat.sub_zero, hA, ite_self]
/-- a file's round -/
theorem off_file {B db mb : Nat} {acts fuse keep : Int} {fs fs' : List FileS} {k : Int} {w wr w1 : World} {left : Lit → Bool} (H : Dk B db mb false acts fuse keep fs w) (HO : OffR B db mb acts fuse keep fs k w left fs' wr) (d1 : Dk B db mb false acts fuse keep fs' w1) (hs : sumF fs ≤ 1000000)
    (m1 : Mv (· = w.heap.size) wr w1) (hr : w.heap.size < w1.heap.size) {f : FileS} (hf : f ∈ fs') (hl : left (keyL f.nm) = true) {n cap : Nat} {A : Option Addr} (hw : f.wv = .slice A f.u.length cap) (hn : n ≤ f.u.length) (hk : keepN k f.u = f.u.take n) :
    ∃ A' n' c' w2, (apRow #[25, 25] 25 #[f.sv, .slice A n cap]).run Tryd.prog w1.drew = .ok (.slice A' n' c') w2 ∧ w2.frozen? ⟨f.g, 0, none⟩ = false ∧ w2.frozen? ⟨f.g, 1, none⟩ = false ∧ w2.cell? ⟨f.g, 0, none⟩ = some f.sv ∧ w2.cell? ⟨f.g, 1, none⟩ = some (.slice A f.u.length cap) ∧
      OffR B db mb acts fuse keep fs k w (fun z => left z && !z.sameKey (keyL f.nm)) (updF fs' (f.safed (.slice A' n' c') (keepN k f.u))) ((w2.setCell ⟨f.g, 0, none⟩ (.slice A' n' c')).setCell ⟨f.g, 1, none⟩ (.slice none 0 0)) ∧
      Mv f.fp w1 ((w2.setCell ⟨f.g, 0, none⟩ (.slice A' n' c')).setCell ⟨f.g, 1, none⟩ (.slice none 0 0)) := by
  have d2 := d1.below ((Below.refl _ _).drew)
  have ho := d2.files f hf
  have hlen : f.s.length + f.u.length ≤ 1000000 := by have h1 := off_len HO.con hf; have h2 : f.len = f.s.length + f.u.length := rfl; omega
  have hBw : B ≤ w1.drew.heap.size := Nat.le_trans d2.geD (Nat.le_of_lt (d2.lt (.inl rfl)).2)
  have hw' := ho.waits
  rw [hw] at hw'
  have key : ∃ v' w2, (apRow #[25, 25] 25 #[f.sv, .slice A n cap]).run Tryd.prog w1.drew = .ok v' w2 ∧ OB w2 B v' (f.s ++ f.u.take n) ∧ w1.drew.grownBy w2 f.sv.ownBlock ∧ (v'.ownBlock = f.sv.ownBlock ∨ v'.ownBlock = some w1.drew.heap.size) := by
    rcases hw'.2 with ⟨hv, h0⟩ | ⟨g, cap', cur, hv, -⟩
    · have hn0 : n = 0 := by omega
      have hA : A = none := (Value.slice.inj hv).1
      have hc : cap = 0 := (Value.slice.inj hv).2.2
      subst hn0 hA hc
      exact ob_both 25 ho.safe (ob_nil _ B) (by simp; omega) hBw
    · have hA : A = some ⟨g, 0, none⟩ := (Value.slice.inj hv).1
      subst hA
      exact ob_part 25 ho.safe hw' n hn (by omega) hBw
  obtain ⟨v', w2, r2, o2, g2, e2⟩ := key
  obtain ⟨A', c', rfl, -⟩ := ob_shape o2 rfl
  obtain ⟨d3, m3, z0, z1⟩ := d2.safe hf o2 g2 e2
  have hcs : w2.heap[f.g]? = some (.cells #[f.sv, f.wv] 75 (0, 0)) := (g2.block f.g (ho.lt (.inl rfl)).2 (fun c => ho.gs c.symm)).trans ho.cells
  have hin : ∀ i, f.fp i → dkFp db mb fs i ∨ w.heap.size < i := fun i hi => HO.fp i (.inr (.inr ⟨f, hf, hi⟩))
  have hsz : w.heap.size ≤ wr.heap.size := HO.mv.size
  have hsz1 : wr.heap.size ≤ w1.heap.size := m1.size
  refine ⟨A', _, c', w2, r2, z0, z1, cell_at hcs rfl, by rw [← hw]; exact cell_at hcs rfl, ⟨by rw [hk]; exact d3, off_step d1.names HO.con hf hl _, (ngs_upd (f' := f.safed _ _) d1.names hf rfl rfl).trans HO.ngs, ?_, fun i hi => ?_⟩, ⟨m3.os, m3.tape, m3.output, m3.size, m3.block⟩⟩
  · refine (HO.mv.trans (fq := (· = w.heap.size)) m1 (fun i hi e => by omega)).trans (fq := f.fp) ⟨m3.os, m3.tape, m3.output, m3.size, m3.block⟩ (fun i hi hfi => ?_)
    rcases hin i hfi with h | h
    · exact h
    · omega
  · rcases hi with rfl | rfl | ⟨f2, hf2, hi⟩
    · exact .inl (.inl rfl)
    · exact .inl (.inr (.inl rfl))
    · rcases mem_updF hf2 with rfl | ⟨hf3, -⟩
      · rcases hi with hi | hi | hi
        · exact hin i (.inl hi)
        · rcases e2 with e | e
          · exact hin i (.inr (.inl (e ▸ hi)))
          · have hi' : (Value.slice A' (f.s ++ f.u.take n).length c').ownBlock = some i := hi
            rw [e] at hi'
            have h4 := Option.some.inj hi'
            have h5 : w1.drew.heap.size = w1.heap.size := rfl
            omega
        · simp [FileS.safed, Value.ownBlock] at hi
      · exact HO.fp i (.inr (.inr ⟨f2, hf3, hi⟩))
/-- the power is gone -/
def OffEnd (B db mb : Nat) (acts keep : Int) (fs : List FileS) (k : Int) (w : World) (e : Ending) (w' : World) : Prop :=
  e = .returned (.tuple #[]) ∧ ∃ fs', Dk B db mb true acts 0 keep fs' w' ∧ con fs' = (con fs).map (offC k) ∧ Mv (dkFp db mb fs) w w' ∧ ∀ i, dkFp db mb fs' i → dkFp db mb fs i ∨ w.heap.size ≤ i
@[go_sem ↓] theorem ap_B_off (ty : TypeId) (args : Array Value) : Builtin.append_ #[25, 25] ty args = apRow #[25, 25] ty args := rfl
set_option maxRecDepth 100000 in
set_option maxHeartbeats 1000000 in
theorem off_any (B db mb : Nat) (acts fuse keep : Int) (fs : List FileS) (w : World) (h : Dk B db mb false acts fuse keep fs w) (hs : sumF fs ≤ 1000000) (k : Int) :
    Calls Tryd.prog 21 #[.pointer (some ⟨db, 0, none⟩), .int .i64 k] w (OffEnd B db mb acts keep fs k w) := by
  have H := Lib.hid h
  have HS := Lib.hid hs
  have c0 : w.cell? ⟨db, 0, none⟩ = some (.map (some mb)) := cell_at h.cells rfl
  have c1 : w.cell? ⟨db, 1, none⟩ = some (.bool false) := cell_at h.cells rfl
  obtain ⟨D, hown, hR⟩ := h.map
  have HR := Lib.hid hR
  have hmb := hown.lt
  have hdb := (h.lt (.inl rfl)).2
  clear h hs hR
  go_enter Tryd.func21, Tryd.ntmps21
  go_wp2_with (first
    | (at_range; refine wpList_range_own _ rfl _ 69 rfl 9 72 mapLaw Tryd.underlying69 ptrE mb fs.length D rfl hown ?_; intro w0 hrg0 hg0 hs0)
    | go_in)
  go_frame
  have hb0 : Below w.heap.size w w0 := ⟨hg0.os, hg0.tape, hg0.output, hg0.size, fun k hk => hg0.block k hk (by simp)⟩
  go_loopw [5] (fun _ wr => ∃ (left : Lit → Bool) (cnt : Nat) (fs' : List FileS), wr.ranges Tryd.prog 9 ptrE mb w.heap.size fs.length D left cnt ∧ OffR B db mb acts fuse keep fs k w left fs' wr ∧ (∀ kl, left kl = true → Maps.has D kl = true)) (fun _ wr => wr.rangeLeft mb w.heap.size)
  case atStart =>
    refine ⟨_, _, fs, hrg0, ⟨H.out.below hb0, ?_, rfl, Mv.of_below hb0, fun i hi => .inl hi⟩, fun _ c => c⟩
    unfold offL
    refine (List.map_id' (con fs)).symm.trans (List.map_congr_left fun x hx => ?_)
    obtain ⟨f, hf, rfl⟩ := List.mem_map.1 hx
    rw [if_pos (HR.out.in hf)]
  case round =>
    obtain ⟨left, cnt, fs', hrg, hO, hleft⟩ := hrel
    have HL := Lib.hid hleft
    have HO := Lib.hid hO
    clear hleft hO
    go_wp2_with (first
      | (at_next; refine wpList_next_ranges _ rfl _ rfl 9 mapLaw ptrE id id (fun key _ _ => ⟨key, rfl⟩) (fun v _ _ => ⟨v, rfl⟩) mb w.heap.size fs.length D _ _ rfl hrg ?_ ?_)
      | go_in)
    · intro hc0 hl0
      have z1 : wr.frozen? ⟨db, 1, none⟩ = false := frozen_at HO.out.dk.cells
      have z3 : wr.frozen? ⟨db, 3, none⟩ = false := frozen_at HO.out.dk.cells
      have x1 : wr.cell? ⟨db, 1, none⟩ = some (.bool false) := cell_at HO.out.dk.cells rfl
      have x3 : wr.cell? ⟨db, 3, none⟩ = some (.int .i64 fuse) := cell_at HO.out.dk.cells rfl
      clear hrg hown hmb hdb
      go_wp2_with fail
      go_end0
      have m1 : Mv (· = db) wr ((wr.setCell ⟨db, 1, none⟩ (.bool true)).setCell ⟨db, 3, none⟩ (.int .i64 0)) := (Mv.setCell (fp := (· = db)) wr ⟨db, 1, none⟩ _ rfl).trans (fq := (· = db)) (Mv.setCell _ ⟨db, 3, none⟩ _ rfl) (fun _ _ c => c)
      refine ⟨rfl, fs', HO.out.dk.turn m1 (setCell_at (i := 3) (setCell_at (i := 1) HO.out.dk.cells _) _), ?_, HO.out.mv.trans (fq := (· = db)) m1 (fun i _ e => .inl e), fun i hi => (HO.out.fp i hi).imp id (fun h => Nat.le_of_lt h)⟩
      rw [HO.out.con]
      unfold offL
      exact List.map_congr_left fun x _ => by rw [if_neg (by rw [hl0]; decide)]
    · intro x c kl yd yp w1 cnt1 hkey hlx hv hat hrg1 hlt hg1 hs1 hen
      obtain ⟨f0, hf0, rfl⟩ := HR.out.has kl (HL.out kl hlx)
      have hyf := (hat (blockL 0)).symm.trans (HR.out.at' f0 hf0 _)
      have hvf : c = .pointer (some ⟨f0.g, 0, none⟩) := by
        refine ptrE_some (ps := yp) (hv.trans ?_)
        rw [← hyf]
      subst hvf
      obtain ⟨f, hf, hnm, hgg⟩ := ngs_mem HO.out.ngs hf0
      rw [← hnm] at hlx
      have hn0 : ∀ i, dkFp db mb fs' i → i ≠ w.heap.size := fun i hi e => by
        rcases HO.out.fp i hi with h | h
        · have := (H.out.lt h).2; omega
        · omega
      have m1 : Mv (· = w.heap.size) wr w1 := Mv.of_grown hg1 (fun k hk => (Option.some.inj hk).symm)
      have d1 := HO.out.dk.mv m1 hn0
      have ho := d1.files f hf
      have cs : w1.drew.cell? ⟨f.g, 0, none⟩ = some f.sv := cell_at ho.cells rfl
      have cw : w1.drew.cell? ⟨f.g, 1, none⟩ = some f.wv := cell_at ho.cells rfl
      have cw0 : w1.cell? ⟨f.g, 1, none⟩ = some f.wv := cell_at ho.cells rfl
      obtain ⟨A2, p2, e2, hp2⟩ := ob_shape ho.waits rfl
      obtain ⟨A1, p1, e1, hp1⟩ := ob_shape ho.safe rfl
      have hfm := Lib.hid (d1.noM f hf)
      have hfr := Lib.hid (fun c : f.fp w.heap.size => hn0 _ (.inr (.inr ⟨f, hf, c⟩)) rfl)
      have hul : f.u.length ≤ 1000000 := by have h1 := off_len HO.out.con hf; have h2 : f.len = f.s.length + f.u.length := rfl; have := HS.out; omega
      have hst := fun n (hn : n ≤ f.u.length) hk => off_file H.out HO.out d1 HS.out m1 hrg1.lt hf hlx (n := n) e2 hn hk
      have hsl := fun n (hn : n ≤ f.u.length) z (hz : z = (n : Int)) w' => slice_part (w := w1) (w' := w') (n := n) (e2 ▸ ho.waits) hn hp2 hz
      rw [hgg] at hst cs cw cw0
      rw [hnm] at hst
      rw [e2] at cw cw0
      rw [e1] at cs hst
      clear hat hv hkey hyf d1 hg1 hs1 m1 ho hn0
      by_cases hk0 : k < 0
      · obtain ⟨A', n', c', w2, r2, z0, z1, x0, x1, hR2, m2⟩ := hst 0 (Nat.zero_le _) (by unfold keepN; rw [show k.toNat = 0 by omega])
        have hsl0 := hsl 0 (Nat.zero_le _) 0 rfl
        clear hst hsl
        have E := Lib.hid (And.intro hR2 m2)
        clear hR2 m2 hul
        go_wp2_with fail
        go_region
        clear r2 hsl0
        have hrg2 := ranges_mv hrg1 E.out.2 hfm.out hfr.out
        go_roundw
        case rel =>
          exact ⟨_, _, _, _, _, _, _, _, _, _, _, _, _, _, _, _, _, _, _, _, _, _, _, _, _, _, _, _, _, _, _, ⟨fun z => left z && !z.sameKey (keyL f0.nm), cnt1, _, hrg2, E.out.1, fun k hk => HL.out k (Bool.and_eq_true_iff.1 hk).1⟩, rfl⟩
        case measure => rw [hrg2.left_eq, hrg.left_eq]; exact hlt
      · have hk1 : (0 : Int) ≤ k := by omega
        by_cases hk2 : k ≤ f.u.length
        · obtain ⟨A', n', c', w2, r2, z0, z1, x0, x1, hR2, m2⟩ := hst k.toNat (by omega) rfl
          have hsl0 := hsl k.toNat (by omega) k (by omega)
          clear hst hsl
          have E := Lib.hid (And.intro hR2 m2)
          clear hR2 m2 hul
          go_wp2_with fail
          go_region
          clear r2 hsl0
          have hrg2 := ranges_mv hrg1 E.out.2 hfm.out hfr.out
          go_roundw
          case rel =>
            exact ⟨_, _, _, _, _, _, _, _, _, _, _, _, _, _, _, _, _, _, _, _, _, _, _, _, _, _, _, _, _, _, _, ⟨fun z => left z && !z.sameKey (keyL f0.nm), cnt1, _, hrg2, E.out.1, fun k hk => HL.out k (Bool.and_eq_true_iff.1 hk).1⟩, rfl⟩
          case measure => rw [hrg2.left_eq, hrg.left_eq]; exact hlt
        · have hk3 : (f.u.length : Int) < k := by omega
          obtain ⟨A', n', c', w2, r2, z0, z1, x0, x1, hR2, m2⟩ := hst f.u.length (Nat.le_refl _) (by unfold keepN; rw [List.take_of_length_le (by omega), List.take_of_length_le (by omega)])
          have hsl0 := hsl f.u.length (Nat.le_refl _) f.u.length rfl
          clear hst hsl
          have E := Lib.hid (And.intro hR2 m2)
          clear hR2 m2 hul
          go_wp2_with fail
          go_region
          clear r2 hsl0
          have hrg2 := ranges_mv hrg1 E.out.2 hfm.out hfr.out
          go_roundw
          case rel =>
            exact ⟨_, _, _, _, _, _, _, _, _, _, _, _, _, _, _, _, _, _, _, _, _, _, _, _, _, _, _, _, _, _, _, ⟨fun z => left z && !z.sameKey (keyL f0.nm), cnt1, _, hrg2, E.out.1, fun k hk => HL.out k (Bool.and_eq_true_iff.1 hk).1⟩, rfl⟩
          case measure => rw [hrg2.left_eq, hrg.left_eq]; exact hlt
end Go.Proofs.YtldicnhpccionaaDoor
