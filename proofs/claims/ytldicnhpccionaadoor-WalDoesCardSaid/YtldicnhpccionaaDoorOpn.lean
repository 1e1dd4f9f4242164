/-
What a law's arguments hold: bytes, records, bools, out of the data that came in; the listed table.
-/
import Derived.Test.YtldicnhpccionaaDoorLoses
import Derived.Test.YtldicnhpccionaaDoorTie
import Derived.Test.YtldicnhpccionaaDoorCards
import Derived.ProofKit
import Derived.LaidMore
import Derived.OpenShut
import Derived.Stop.Joined
import Derived.Deep.Slices
import Derived.SizedLaws
namespace Go.Proofs.YtldicnhpccionaaDoor
open Go.ChangeShapes Go.WideShapes Go.ChangeAt Go.WideMaps Go.WideElems Go.RowKit
set_option linter.unusedVariables false
set_option linter.unusedSimpArgs false
theorem own : ownKnob Tryd.prog.godebug = none := by kernel_rfl
theorem laidOut : laidOutB Tryd.prog = true := by kernel_rfl
theorem gTable : Tryd.prog.globalNamed "wapentake/sha.table" = some 0 := by kernel_rfl
theorem tTable : (Tryd.prog.globals[0]?).map (·.type) = some 101 := by kernel_rfl
def lit32 {H : Type} (x : Int) : DataW H := .lit (.int .u32 x)
theorem laid_tab {H : Type} : (Rows.laid_wapentake_sha_table : DataW H) = .agg (tabL.map lit32) := rfl
/-- the listed table gives the walks theirs -/
theorem of_laid {W : World} (h : laidMetH Tryd.prog [("wapentake/sha.table", Rows.laid_wapentake_sha_table)] W) : Tab W ∧ 0 < W.heap.size := by
  rw [MakeChecks.laidMetH_plain _ _ _ (by kernel_rfl)] at h
  obtain ⟨ps, ⟨g0, t0, cs0, f0, p0, q0, hg0, ht0, hv0, hd0, _, _⟩, _, _⟩ := h
  obtain rfl := Option.some.inj (gTable.symm.trans hg0)
  obtain rfl := Option.some.inj (tTable.symm.trans ht0)
  have c3 : Tryd.prog.cellsOf 99 = 1 := by kernel_rfl
  obtain ⟨xs, m1, hcs, hx1, hlen, hn3, hel⟩ := DataW.trod_array Tryd.underlying101 hd0
  rw [laid_tab] at hx1
  have key : ∀ i, i < 64 → W.cell? ⟨0, i, none⟩ = some (.int .u32 (tabK i)) := fun i hi => by
    have h0 := hel i (by omega)
    rw [c3, Nat.mul_one, List.getElem?_eq_getElem (by omega)] at h0
    obtain ⟨k, e1, e2, _⟩ := DataW.trod_int Tryd.underlying99 h0
    have hk : k = tabK i := by
      have h1 : tabL.map lit32 = xs.map (·.1) := by simpa using congrArg (fun x : DataW _ × List MemPlace => match x.1 with | .agg l => l | _ => []) hx1
      have h2 := congrArg (fun l => l[i]?) h1
      simp only [List.getElem?_map] at h2
      rw [List.getElem?_eq_getElem (l := xs) (by omega), e2] at h2
      have hl : i < tabL.length := by show i < 64; exact hi
      rw [List.getElem?_eq_getElem hl] at h2
      simp only [Option.map_some, Option.some.injEq, lit32, DataW.lit.injEq, Lit.int.injEq, true_and] at h2
      unfold tabK
      rw [List.getD_eq_getElem?_getD, List.getElem?_eq_getElem hl]
      exact h2.symm
    have h3 := World.var?_cell hg0 hv0 i
    rw [h3]
    have h4 : (cs0.toList.drop i)[0]? = some (.int .u32 k) := by
      have := congrArg (fun l : List Value => l[0]?) e1
      simpa using this
    rw [← hk]
    simpa using h4
  refine ⟨key, ?_⟩
  exact Nat.lt_of_le_of_lt (Nat.zero_le _) (World.block_lt_of_cell? W ⟨0, 0, none⟩ (key 0 (by decide)))

set_option maxRecDepth 100000 in
theorem reach_le : reachBytes ≤ 140737488355328 := of_decide_eq_true (by kernel_rfl)
section
variable {H : Type} {enc : TypeId × Value → H} {w : World} {base : Nat} {spare : Nat → Bool} {held : Bool}
theorem weights_elem {P : Program} {e : TypeId} {elems : List (DataW H)} {d : DataW H} (h : d ∈ elems) {n : Nat} (hn : n ∈ d.weights P e) : n ∈ DataW.weightsAll P e elems := by
  induction elems with
  | nil => cases h
  | cons x r ih =>
    simp only [DataW.weightsAll, List.mem_append]
    rcases List.mem_cons.1 h with rfl | h
    · exact .inl hn
    · exact .inr (ih h)
theorem u8_of_wf {z : Int} (h : (Lit.int .u8 z).wf = true) : 0 ≤ z ∧ z < 256 := by have := bounds_u8 h; omega
/-- a slice of bytes that came in -/
theorem trod_bytes {fuel : Nat} {cs : List Value} {d : DataW H} {pl : List MemPlace} (h : DataW.trod enc Tryd.prog w 0 spare held fuel 25 cs = some (d, pl)) :
    ∃ A l c, cs = [.slice A l.length c] ∧ BL w A l ∧ (A = none → c = 0 ∧ l = []) ∧ (∀ b o, A = some ⟨b, o, none⟩ → 0 < l.length → b < w.heap.size) ∧ (l = [] ∨ ∃ x ∈ d.weights Tryd.prog 25, l.length ≤ x) := by
  have c1 : Tryd.prog.cellsOf 5 = 1 := by kernel_rfl
  have by1 : Tryd.prog.bytesOf 5 = 1 := by kernel_rfl
  rcases open_ints Tryd.underlying25 Tryd.underlying5 c1 h with ⟨rfl, hx⟩ | ⟨a, len, cap, zs, rfl, _, hl, hm, hz, hx, hcell, hwf⟩
  · exact ⟨none, [], 0, rfl, ⟨fun h => absurd h (by simp)⟩, fun _ => ⟨rfl, rfl⟩, fun b o h => (by cases h), .inl rfl⟩
  · have hle : len ≤ zs.length := by rw [hz]; split <;> omega
    have hlen : ((zs.take len).map fun z => UInt8.ofNat z.toNat).length = len := by rw [List.length_map, List.length_take]; omega
    have hc : ∀ j u, (bcs ((zs.take len).map fun z => UInt8.ofNat z.toNat))[j]? = some u → w.cell? (a.add j) = some u := fun j u hu => by
      have hj : j < len := by have := (List.getElem?_eq_some_iff.1 hu).1; rw [bcs_len, hlen] at this; exact this
      rw [hcell j (by omega)]
      unfold bcs at hu
      rw [List.getElem?_map, List.getElem?_map, List.getElem?_take, if_pos hj, List.getElem?_eq_getElem (by omega)] at hu
      simp only [Option.map_some, Option.some.injEq] at hu
      rw [← hu, List.getD_eq_getElem?_getD, List.getElem?_eq_getElem (by omega), Option.getD_some]
      rw [u8_of (u8_of_wf (hwf _ (List.getElem_mem (by omega))))]
    refine ⟨some a, (zs.take len).map fun z => UInt8.ofNat z.toNat, cap, by rw [hlen], ⟨fun h0 => ?_⟩, fun h => (by cases h), fun b o e h0 => ?_, .inr ?_⟩
    · rw [hlen] at h0
      have h1 := hc 0 _ (List.getElem?_eq_getElem (by rw [bcs_len, hlen]; exact h0))
      obtain ⟨b, o, sp⟩ := a
      have hsp : sp = none := by
        unfold World.cell? at h1
        split at h1
        · split at h1
          · cases h1
          · rename_i h; simpa [Addr.add] using h
        · cases h1
      subst hsp
      exact ⟨b, o, rfl, World.block_lt_of_cell? w _ (by rw [Addr.add_mid] at h1; exact h1), fun j u hu => by have := hc j u hu; rw [Addr.add_mid] at this; exact this⟩
    · rw [hlen] at h0
      have h1 := hc 0 _ (List.getElem?_eq_getElem (by rw [bcs_len, hlen]; exact h0))
      cases e
      rw [Addr.add_mid] at h1
      exact World.block_lt_of_cell? w _ h1
    · rw [hlen]
      have := (Prod.mk.inj hx).1
      rw [this]
      refine ⟨_, by simp only [DataW.weights, Tryd.underlying25]; exact List.mem_cons_self, ?_⟩
      rw [by1]
      simp [lits]
      omega
set_option maxRecDepth 100000 in
/-- records that came in -/
theorem open_recs {r : Reach} {b0 : Nat} {v : Value} {d : DataW H} {p : List MemPlace} (hv : Value.okWide Tryd.prog w r b0 22 v) (h : DataW.Trod enc Tryd.prog w 0 spare held 22 v d p) (hw : ∀ n ∈ d.weights Tryd.prog 22, n ≤ reachBytes) :
    ∃ ls, Lst (fun i => i < w.heap.size) w v ls ∧ ls.length ≤ 140737488355328 ∧ ∀ l ∈ ls, l.length ≤ 140737488355328 := by
  obtain ⟨A, n, cap, rfl⟩ := okWide_slice (P := Tryd.prog) Tryd.underlying22 hv
  obtain ⟨fuel, hf⟩ := h
  have c1 : Tryd.prog.cellsOf 25 = 1 := by kernel_rfl
  have by1 : Tryd.prog.bytesOf 25 = 24 := by kernel_rfl
  have hR := reach_le
  rcases Deep.open_slice Tryd.underlying22 hf with ⟨hcs, hx⟩ | ⟨a, len, cap', m, nf, D, Pl, hcs, _, hlc, hcm, hm, hx, hel⟩
  · simp [Value.cells] at hcs
    obtain ⟨rfl, rfl, rfl⟩ := hcs
    exact ⟨[], lst_nil _ _, by simp, by simp⟩
  · simp [Value.cells] at hcs
    obtain ⟨rfl, rfl, rfl⟩ := hcs
    have hd := (Prod.mk.inj hx).1
    have hmn : n ≤ m := by rw [hm]; split <;> omega
    have h1 : ∀ i, i < n → ∃ l, El (fun i => i < w.heap.size) w (a.add i) l ∧ (l = [] ∨ ∃ x ∈ (D i).weights Tryd.prog 25, l.length ≤ x) := fun i hi => by
      obtain ⟨cs', h2, h3⟩ := hel i (by omega)
      rw [c1, Nat.mul_one] at h2
      obtain ⟨A, l, c, rfl, h4, h5, h6, h7⟩ := trod_bytes h3
      refine ⟨l, ⟨⟨A, c, ?_, h4, h5, h6⟩⟩, h7⟩
      have := (World.cells?_some h2).2.2 0 (by omega)
      simpa [Addr.add] using this
    obtain ⟨f, hf⟩ := Deep.choose_lt h1
    have hgd : ∀ i, i < n → ((List.range n).map f).getD i [] = f i := fun i hi => by simp [List.getD_eq_getElem?_getD, hi]
    have hlen : ∀ i, i < n → (f i).length ≤ 140737488355328 := fun i hi => by
      rcases (hf i hi).2 with h | ⟨x, hx, hle⟩
      · rw [h]; simp
      · refine Nat.le_trans hle (Nat.le_trans (hw x ?_) hR)
        rw [hd]
        simp only [DataW.weights, Tryd.underlying22, List.mem_cons, List.mem_append]
        right; left
        exact weights_elem (List.mem_map.2 ⟨i, List.mem_range.2 hi, rfl⟩) hx
    refine ⟨(List.range n).map f, ⟨⟨some a, cap, by simp, by simpa using hlc, fun h0 => ?_⟩⟩, ?_, fun l hl => ?_⟩
    · have h0' : 0 < n := by simpa using h0
      obtain ⟨A, c, h2, -⟩ := (hf 0 h0').1.ex
      obtain ⟨b, o, sp⟩ := a
      have hsp : sp = none := by
        unfold World.cell? at h2
        split at h2
        · split at h2
          · cases h2
          · rename_i h; simpa [Addr.add] using h
        · cases h2
      subst hsp
      have hb : b < w.heap.size := World.block_lt_of_cell? w _ (by rw [Addr.add_mid] at h2; exact h2)
      refine ⟨b, o, rfl, hb, hb, fun i hi => ?_⟩
      have hi' : i < n := by simpa using hi
      rw [hgd i hi']
      have := (hf i hi').1
      rw [Addr.add_mid] at this
      exact this
    · have := hw (n * 24 + (m - n) * 24) (by
        rw [hd]
        simp only [DataW.weights, Tryd.underlying22, List.length_map, List.length_range, by1]
        rw [Nat.add_mul]
        exact List.mem_cons_self)
      simp
      omega
    · obtain ⟨i, hi, rfl⟩ := List.mem_map.1 hl
      exact hlen i (List.mem_range.1 hi)
set_option maxRecDepth 100000 in
/-- bools that came in -/
theorem open_bools {r : Reach} {b0 : Nat} {v : Value} {d : DataW H} {p : List MemPlace} (hv : Value.okWide Tryd.prog w r b0 44 v) (h : DataW.Trod enc Tryd.prog w 0 spare held 44 v d p) (hw : ∀ n ∈ d.weights Tryd.prog 44, n ≤ reachBytes) :
    ∃ n, Bools w v n ∧ n ≤ 140737488355328 := by
  obtain ⟨A, n, cap, rfl⟩ := okWide_slice Tryd.underlying44 hv
  obtain ⟨fuel, hf⟩ := h
  have c1 : Tryd.prog.cellsOf 4 = 1 := by kernel_rfl
  have by1 : Tryd.prog.bytesOf 4 = 1 := by kernel_rfl
  have hR := reach_le
  rcases Deep.open_slice Tryd.underlying44 hf with ⟨hcs, hx⟩ | ⟨a, len, cap', m, nf, D, Pl, hcs, _, hlc, hcm, hm, hx, hel⟩
  · simp [Value.cells] at hcs
    obtain ⟨rfl, rfl, rfl⟩ := hcs
    exact ⟨0, ⟨none, 0, rfl, fun h => absurd h (by omega)⟩, by omega⟩
  · simp [Value.cells] at hcs
    obtain ⟨rfl, rfl, rfl⟩ := hcs
    have hd := (Prod.mk.inj hx).1
    have hmn : n ≤ m := by rw [hm]; split <;> omega
    have h1 : ∀ i, i < n → ∃ b, w.cell? (a.add i) = some (.bool b) := fun i hi => by
      obtain ⟨cs', h2, h3⟩ := hel i (by omega)
      rw [c1, Nat.mul_one] at h2
      obtain ⟨b, rfl, -⟩ := DataW.trod_bool Tryd.underlying4 h3
      refine ⟨b, ?_⟩
      have := (World.cells?_some h2).2.2 0 (by omega)
      simpa [Addr.add] using this
    refine ⟨n, ⟨some a, cap, rfl, fun h0 => ?_⟩, ?_⟩
    · obtain ⟨bb, h2⟩ := h1 0 h0
      obtain ⟨b, o, sp⟩ := a
      have hsp : sp = none := by
        unfold World.cell? at h2
        split at h2
        · split at h2
          · cases h2
          · rename_i h; simpa [Addr.add] using h
        · cases h2
      subst hsp
      refine ⟨b, o, rfl, World.block_lt_of_cell? w _ (by rw [Addr.add_mid] at h2; exact h2), fun i hi => ?_⟩
      obtain ⟨x, hx⟩ := h1 i hi
      rw [Addr.add_mid] at hx
      exact ⟨x, hx⟩
    · have := hw (n * 1 + (m - n) * 1) (by
        rw [hd]
        simp only [DataW.weights, Tryd.underlying44, List.length_map, List.length_range, by1]
        rw [Nat.add_mul]
        exact List.mem_cons_self)
      omega
end
end Go.Proofs.YtldicnhpccionaaDoor
