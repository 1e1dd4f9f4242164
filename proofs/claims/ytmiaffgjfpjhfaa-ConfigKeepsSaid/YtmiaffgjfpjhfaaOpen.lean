/-
What a law's arguments hold: keys, members, changes, configurations, read out of the data that came in.
-/
import Derived.Test.YtmiaffgjfpjhfaaApplyE
import Derived.Test.YtmiaffgjfpjhfaaSame
import Derived.OpenShut
import Derived.ShutString
import Derived.ChangeOld
import Derived.Below
import Derived.Lib.SmallJoins
namespace Go.Proofs.Ytmiaffgjfpjhfaa
open Go.ChangeShapes Go.WideShapes Go.ChangeAt Go.RowKit
set_option linter.unusedVariables false
set_option linter.unusedSimpArgs false

theorem own : ownKnob Try.prog.godebug = none := by kernel_rfl
theorem laidOut : laidOutB Try.prog = true := by kernel_rfl

section
variable {H : Type} {enc : TypeId × Value → H} {w : World} {base : Nat} {spare : Nat → Bool} {held : Bool}
theorem listMap_of {cs : List Value} {k : IntKind} (h : ∀ i, i < cs.length → ∃ n, cs[i]? = some (.int k n) ∧ (Lit.int k n).wf = true) : ∃ rs : List Int, cs = rs.map (Value.int k) ∧ ∀ x ∈ rs, (Lit.int k x).wf = true := by
  induction cs with
  | nil => exact ⟨[], rfl, by simp⟩
  | cons c cs ih =>
    obtain ⟨n, hn, hw⟩ := h 0 (by simp)
    obtain ⟨rs, rfl, hr⟩ := ih (fun i hi => by have := h (i + 1) (by simp; omega); simpa using this)
    simp at hn
    subst hn
    exact ⟨n :: rs, rfl, fun x hx => (List.mem_cons.1 hx).elim (fun e => e ▸ hw) (fun hx => hr x hx)⟩
theorem trod_digest {fuel : Nat} {cs : List Value} {y : DataW H × List MemPlace} (h : DataW.trod enc Try.prog w base spare held fuel 31 cs = some y) : ∃ rs : List Int, cs = rs.map (Value.int .u8) ∧ rs.length = 32 ∧ ∀ x ∈ rs, (Lit.int .u8 x).wf = true := by
  obtain ⟨xs, m, _, _, hl, hn, hx⟩ := DataW.trod_array Try.underlying31 h
  have hl' : cs.length = 32 := hl.trans (by kernel_rfl)
  have hone : Try.prog.cellsOf 5 = 1 := by kernel_rfl
  obtain ⟨rs, rfl, hr⟩ := listMap_of (cs := cs) (k := .u8) (fun i hi => by
    have h1 := hx i (by omega)
    rw [hone, Nat.mul_one, List.getElem?_eq_getElem (by omega)] at h1
    obtain ⟨n, h2, _, h3⟩ := DataW.trod_int Try.underlying5 h1
    refine ⟨n, ?_, h3⟩
    have : ((cs.drop i).take 1)[0]? = some (.int .u8 n) := by rw [h2]; rfl
    simpa using this)
  exact ⟨rs, rfl, by simpa using hl', hr⟩
theorem trod_key {fuel : Nat} {cs : List Value} {y : DataW H × List MemPlace} (h : DataW.trod enc Try.prog w base spare held fuel 33 cs = some y) : ∃ k : Kb, cs = k.cells ∧ k.ok := by
  obtain ⟨y0, y1, n, _, hl, h0, h1⟩ := trod_struct2 Try.underlying33 h
  have hl' : cs.length = 33 := hl.trans (by kernel_rfl)
  have e0 : Try.prog.cellsOf 31 = 32 := by kernel_rfl
  have e1 : Try.prog.cellsOf 3 = 1 := by kernel_rfl
  simp only [e0, e1, List.drop_zero] at h0 h1
  obtain ⟨rs, h2, h3, h4⟩ := trod_digest h0
  obtain ⟨t, h5, _, h6⟩ := DataW.trod_int Try.underlying3 h1
  refine ⟨⟨rs, t⟩, ?_, ⟨h3, h4, h6⟩⟩
  unfold Kb.cells
  simp only
  rw [← h2, ← h5]
  rw [List.take_of_length_le (i := 1) (by simp; omega), List.take_append_drop]
theorem trod_member {fuel : Nat} {cs : List Value} {y : DataW H × List MemPlace} (h : DataW.trod enc Try.prog w base spare held fuel 37 cs = some y) : ∃ m : Mb, cs = m.cells ∧ m.ok := by
  obtain ⟨y0, y1, n, _, hl, h0, h1⟩ := trod_struct2 Try.underlying37 h
  have hl' : cs.length = 34 := hl.trans (by kernel_rfl)
  have e0 : Try.prog.cellsOf 33 = 33 := by kernel_rfl
  have e1 : Try.prog.cellsOf 3 = 1 := by kernel_rfl
  simp only [e0, e1, List.drop_zero] at h0 h1
  obtain ⟨t, h5, _, h6⟩ := DataW.trod_int Try.underlying3 h0
  rw [List.take_of_length_le (i := 33) (by simp; omega)] at h1
  obtain ⟨k, h2, h3⟩ := trod_key h1
  refine ⟨⟨t, k⟩, ?_, ⟨h3, h6⟩⟩
  unfold Mb.cells
  simp only
  rw [← h2]
  have := List.take_append_drop 1 cs
  rw [h5] at this
  simpa using this.symm
theorem trod_change {fuel : Nat} {cs : List Value} {y : DataW H × List MemPlace} (h : DataW.trod enc Try.prog w base spare held fuel 35 cs = some y) : ∃ x : Chg, cs = x.cells ∧ x.ok := by
  obtain ⟨xs, n, _, _, hl, hlen, hf⟩ := DataW.trod_struct Try.underlying35 h
  have hl' : cs.length = 36 := hl.trans (by kernel_rfl)
  have e0 : Try.prog.cellsOf 33 = 33 := by kernel_rfl
  have e1 : Try.prog.cellsOf 3 = 1 := by kernel_rfl
  have h0 : DataW.trod enc Try.prog w base spare held n 3 ((cs.drop 0).take (Try.prog.cellsOf 3)) = xs[0]? := hf 0 _ rfl
  have h1 : DataW.trod enc Try.prog w base spare held n 3 ((cs.drop 1).take (Try.prog.cellsOf 3)) = xs[1]? := hf 1 _ rfl
  have h2 : DataW.trod enc Try.prog w base spare held n 3 ((cs.drop 2).take (Try.prog.cellsOf 3)) = xs[2]? := hf 2 _ rfl
  have h3 : DataW.trod enc Try.prog w base spare held n 33 ((cs.drop 3).take (Try.prog.cellsOf 33)) = xs[3]? := hf 3 _ rfl
  rw [e1] at h0 h1 h2
  rw [e0] at h3
  rw [List.drop_zero] at h0
  have hlen' : xs.length = 4 := hlen
  rw [List.getElem?_eq_getElem (by omega)] at h0 h1 h2 h3
  obtain ⟨a, h4, _, h5⟩ := DataW.trod_int Try.underlying3 h0
  obtain ⟨b, h6, _, h7⟩ := DataW.trod_int Try.underlying3 h1
  obtain ⟨c, h8, _, h9⟩ := DataW.trod_int Try.underlying3 h2
  rw [List.take_of_length_le (i := 33) (by simp; omega)] at h3
  obtain ⟨k, h10, h11⟩ := trod_key h3
  refine ⟨⟨a, b, c, k⟩, ?_, ⟨h5, h7, h9, h11⟩⟩
  unfold Chg.cells
  rw [show (Chg.mk a b c k).key.cells = k.cells from rfl, ← h10]
  match cs, hl', h4, h6, h8 with
  | p :: q :: r :: rest, _, h4, h6, h8 =>
    simp at h4 h6 h8
    subst h4; subst h6; subst h8
    rfl
theorem open_members {fuel : Nat} {cs : List Value} {y : DataW H × List MemPlace} (h : DataW.trod enc Try.prog w 0 spare held fuel 22 cs = some y) :
    ∃ A n cap, cs = [.slice A n cap] ∧ n ≤ maxLen ∧ (n ≤ 140737488355328 → ∃ ms, MS w A n ms) := by
  have e1 : Try.prog.cellsOf 37 = 34 := by kernel_rfl
  rcases DataW.trod_slice Try.underlying22 h with ⟨rfl, _⟩ | ⟨a, len, cap, elems, rest, m, _, rfl, _, _, hlc, hcm, hel, hx, _, _⟩
  · exact ⟨none, 0, 0, rfl, by decide, fun _ => ⟨[], rfl, by decide, by simp, fun h => absurd h (by simp)⟩⟩
  · refine ⟨some a, len, cap, rfl, by omega, fun hs => ?_⟩
    rw [e1] at hx
    have hx2 : ∀ i, i < len → ∃ m : Mb, m.ok ∧ ∀ j, j < 34 → w.cell? ((a.add (i * 34)).add j) = m.cells[j]? := by
      intro i hi
      have h1 := hx i hi
      rw [List.getElem?_eq_getElem (by omega)] at h1
      obtain ⟨cs, h2, h3⟩ := Option.bind_eq_some_iff.1 h1
      obtain ⟨m, rfl, hm⟩ := trod_member h3
      exact ⟨m, hm, fun j hj => (World.cells?_some h2).2.2 j hj⟩
    have hsp : 0 < len → a.spot = none := by
      intro h0
      obtain ⟨m, hm, hc⟩ := hx2 0 h0
      have := hc 0 (by omega)
      simp only [Nat.zero_mul] at this
      have e : (a.add 0).add 0 = a := by simp [Addr.add]
      rw [e] at this
      have hne : w.cell? a = some (.int .i64 m.id) := by rw [this]; rfl
      unfold World.cell? at hne
      split at hne
      · split at hne
        · cases hne
        · rename_i h; simpa using h
      · cases hne
    obtain ⟨f, hf⟩ : ∃ f : Nat → Mb, ∀ i, i < len → (f i).ok ∧ ∀ j, j < 34 → w.cell? ((a.add (i * 34)).add j) = (f i).cells[j]? := by
      refine ⟨fun i => if h : i < len then Classical.choose (hx2 i h) else default, fun i hi => ?_⟩
      simp only [hi, dite_true]
      exact Classical.choose_spec (hx2 i hi)
    have hgd : ∀ i, i < len → ((List.range len).map f).getD i default = f i := by
      intro i hi
      simp [List.getD_eq_getElem?_getD, hi]
    refine ⟨(List.range len).map f, by simp, hs, ?_, fun h0 => ?_⟩
    · intro k hk
      obtain ⟨i, hi, rfl⟩ := List.mem_map.1 hk
      exact (hf i (List.mem_range.1 hi)).1
    · have hsp' := hsp h0
      obtain ⟨b, off, sp⟩ := a
      simp only at hsp'
      subst hsp'
      refine ⟨b, off, rfl, ?_, fun i hi => ?_⟩
      · have := (hf 0 h0).2 0 (by omega)
        rw [Addr.add_mid, Addr.add_mid] at this
        exact World.block_lt_of_cell? w ⟨b, off + 0 * 34 + 0, none⟩ (this.trans rfl)
      · rw [hgd i hi]
        refine rowAt_of_rangeAt (cs := (f i).cells) (fun j v hv => ?_) (Mb.len (hf i hi).1) (by decide)
        have hj : j < 34 := by have := (List.getElem?_eq_some_iff.1 hv).1; rw [Mb.len (hf i hi).1] at this; exact this
        have := (hf i hi).2 j hj
        rw [Addr.add_mid, Addr.add_mid] at this
        rw [this, hv]
theorem open_config {r : Reach} {b0 : Nat} {v : Value} {d : DataW H} {p : List MemPlace} (hv : Value.okWide Try.prog w r b0 24 v) (h : DataW.Trod enc Try.prog w 0 spare held 24 v d p) :
    ∃ ep A n cap, v = .agg #[.int .i64 ep, .slice A n cap] ∧ (Lit.int .i64 ep).wf = true ∧ n ≤ maxLen ∧ (n ≤ 140737488355328 → ∃ ms, MS w A n ms) := by
  obtain ⟨v0, v1, y0, y1, n, rfl, _, _, h0, h1⟩ := Joins.open_agg2 Try.underlying24 (by kernel_rfl) (by kernel_rfl) hv h
  obtain ⟨ep, e0, _, hw⟩ := DataW.trod_int Try.underlying3 h0
  obtain ⟨A, n, cap, e1, hm, hs⟩ := open_members h1
  cases e0; cases e1
  exact ⟨ep, A, n, cap, rfl, hw, hm, hs⟩
theorem open_change {r : Reach} {b0 : Nat} {v : Value} {d : DataW H} {p : List MemPlace} (hv : Value.okWide Try.prog w r b0 35 v) (h : DataW.Trod enc Try.prog w 0 spare held 35 v d p) :
    ∃ x : Chg, v = .agg x.arr ∧ x.ok := by
  obtain ⟨cs, rfl, hsz⟩ := okWide_struct Try.underlying35 hv
  obtain ⟨fuel, hf⟩ := h
  obtain ⟨x, hx, hok⟩ := trod_change hf
  refine ⟨x, ?_, hok⟩
  unfold Chg.arr
  rw [← hx]
  simp [Value.cells]
theorem open_key {r : Reach} {b0 : Nat} {v : Value} {d : DataW H} {p : List MemPlace} (hv : Value.okWide Try.prog w r b0 33 v) (h : DataW.Trod enc Try.prog w 0 spare held 33 v d p) :
    ∃ x : Kb, v = .agg x.arr ∧ x.ok := by
  obtain ⟨cs, rfl, hsz⟩ := okWide_struct Try.underlying33 hv
  obtain ⟨fuel, hf⟩ := h
  obtain ⟨x, hx, hok⟩ := trod_key hf
  refine ⟨x, ?_, hok⟩
  unfold Kb.arr
  rw [← hx]
  simp [Value.cells]
end

end Go.Proofs.Ytmiaffgjfpjhfaa
