/-
Rows of byte slices of one's own.
-/
import Derived.Test.YtldicnhpccionaaDoorRecs
namespace Go.Proofs.YtldicnhpccionaaDoor
open Go.RowKit
set_option linter.unusedVariables false
set_option linter.unusedSimpArgs false

/-- a value is a slice over these bytes, in none of those blocks -/
def Rec (w : World) (B : Nat) (own : Option Nat) (v : Value) (l : List UInt8) : Prop :=
  ∃ A cap, v = .slice A l.length cap ∧ BL w A l ∧ (A = none → cap = 0 ∧ l = []) ∧ ∀ b o, A = some ⟨b, o, none⟩ → 0 < l.length → own ≠ some b ∧ B ≤ b
theorem bl_kept {w w' : World} {A : Option Addr} {l : List UInt8} {row : Option Nat} (h : BL w A l) (hg : w.grownBy w' row) (hne : ∀ b o, A = some ⟨b, o, none⟩ → 0 < l.length → row ≠ some b) : BL w' A l :=
  ⟨fun h0 => by
    obtain ⟨b, o, hA, hlt, hc⟩ := h.mem h0
    exact ⟨b, o, hA, Nat.lt_of_lt_of_le hlt hg.size, fun j u hu => (World.cell?_of_block (a := ⟨b, o + j, none⟩) (hg.block b hlt (fun e => hne b o hA h0 e.symm))).trans (hc j u hu)⟩⟩
/-- a row of such slices -/
def OutL (w : World) (B : Nat) (vo : Value) (outs : List (List UInt8)) : Prop :=
  ∃ vs : List Value, w.ownsRow B 25 1 vo outs.length vs ∧ ∀ i, i < outs.length → ∃ v, vs[i]? = some v ∧ Rec w B vo.ownBlock v (outs.getD i [])
theorem infoS : (Tryd.prog.info? 25).map (fun i => (i.zero, i.size, i.bytes)) = some (some (.slice none 0 0), 1, 24) := by kernel_rfl
theorem outL_nil (w : World) (B : Nat) : OutL w B (.slice none 0 0) [] := ⟨[], World.ownsRow_nil _ _ _ _, fun i hi => absurd hi (by simp)⟩
theorem OutL.below {w w' : World} {B : Nat} {vo : Value} {outs : List (List UInt8)} (h : OutL w B vo outs) (hb : Below w.heap.size w w') : OutL w' B vo outs := by
  obtain ⟨vs, ho, hr⟩ := h
  refine ⟨vs, ⟨ho.1, ?_⟩, fun i hi => ?_⟩
  · rcases ho.2 with h0 | ⟨g, cap, cur, hv, hB, hh, r⟩
    · exact .inl h0
    · exact .inr ⟨g, cap, cur, hv, hB, (hb.block g (Array.getElem?_eq_some_iff.1 hh).1).trans hh, r⟩
  · obtain ⟨v, hv, A, cap, e, hbl, hA, hne⟩ := hr i hi
    exact ⟨v, hv, A, cap, e, hbl.below hb, hA, hne⟩
theorem outL_lt {w : World} {B : Nat} {vo : Value} {outs : List (List UInt8)} (h : OutL w B vo outs) {g : Nat} (hg : vo.ownBlock = some g) : B ≤ g ∧ g < w.heap.size := by
  obtain ⟨vs, ho, -⟩ := h
  rcases ho.2 with ⟨rfl, -⟩ | ⟨g', cap, cur, rfl, hB, hh, -⟩
  · cases hg
  · simp [Value.ownBlock] at hg; subst hg; exact ⟨hB, (Array.getElem?_eq_some_iff.1 hh).1⟩
/-- one more record is put behind -/
theorem outL_push {w : World} {B : Nat} {vo : Value} {outs : List (List UInt8)} (ty : TypeId) (h : OutL w B vo outs) {A : Option Addr} {cap : Nat} {l : List UInt8} (hbl : BL w A l) (hA : A = none → cap = 0 ∧ l = []) (hne : ∀ b o, A = some ⟨b, o, none⟩ → 0 < l.length → vo.ownBlock ≠ some b ∧ B ≤ b)
    (hn : outs.length ≤ 100000) (hB : B ≤ w.heap.size) :
    ∃ v' w', (apRow #[22, 22] ty #[vo, .slice (some ⟨w.heap.size, 0, none⟩) 1 1]).run Tryd.prog (w.alloc (.cells #[.slice A l.length cap] 25)) = .ok v' w' ∧ OutL w' B v' (outs ++ [l]) ∧ Below B w w' ∧ w.heap.size < w'.heap.size := by
  obtain ⟨i0, hi, hz0, hz1, hz2⟩ := info_parts infoS
  obtain ⟨vs, ho, hr⟩ := h
  have hlt := fun g hg => outL_lt (w := w) (outs := outs) (g := g) ⟨vs, ho, hr⟩ hg
  obtain ⟨v', w', h1, h2, h3, -, h5⟩ := run_append_own_at (P := Tryd.prog) (w.alloc (.cells #[.slice A l.length cap] 25)) B 22 ty 25 i0 (.slice none 0 0) 1 24 Tryd.underlying22 hi hz0 hz1 hz2 rfl (by decide) vo outs.length vs (World.ownsRow.alloc ho _) ⟨w.heap.size, 0, none⟩ 1 1 [.slice A l.length cap] rfl
    (fun j u hu => by rw [Addr.add_mid, Nat.zero_add, World.cell?_alloc_at _ _ _ _ rfl]; simpa using hu) (by intro u hu; simp only [List.mem_singleton] at hu; rw [hu]; rfl) (by simp only [maxLen]; omega) (by omega) (by simp; omega)
  have hb : Below w.heap.size w (w.alloc (.cells #[.slice A l.length cap] 25)) := (Below.refl _ _).alloc (Nat.le_refl _) _
  have hvl : vs.length = outs.length := by have := ho.1; omega
  -- what a record keeps
  have keep : ∀ {v : Value} {x : List UInt8}, Rec w B vo.ownBlock v x → Rec w' B v'.ownBlock v x := by
    rintro v x ⟨A', c', e, b', n', d'⟩
    refine ⟨A', c', e, bl_kept (b'.below hb) h3 (fun b o hAb h0 => (d' b o hAb h0).1), n', fun b o hAb h0 => ⟨?_, (d' b o hAb h0).2⟩⟩
    obtain ⟨b2, o2, hA2, hlt2, -⟩ := b'.mem h0
    rw [hAb] at hA2
    cases hA2
    rcases h5 with e5 | e5
    · rw [e5]; exact (d' b o hAb h0).1
    · rw [e5]; intro e6; simp at e6; omega
  refine ⟨v', w', h1, ⟨vs ++ [.slice A l.length cap], by rw [List.length_append]; exact h2, fun i hi => ?_⟩, (((Below.refl B w).alloc hB _).grown h3 (by simp; omega) (fun k hk => (hlt k hk).1)), by have := h3.size; simp at this; omega⟩
  rw [List.length_append, List.length_singleton] at hi
  by_cases c : i < outs.length
  · obtain ⟨v, hv, hR⟩ := hr i c
    refine ⟨v, by rw [List.getElem?_append_left (by omega)]; exact hv, ?_⟩
    have : (outs ++ [l]).getD i [] = outs.getD i [] := by rw [List.getD_eq_getElem?_getD, List.getD_eq_getElem?_getD, List.getElem?_append_left c]
    rw [this]
    exact keep hR
  · have hie : i = outs.length := by omega
    subst hie
    refine ⟨_, by rw [List.getElem?_append_right (by omega), hvl, Nat.sub_self]; rfl, ?_⟩
    have : (outs ++ [l]).getD outs.length [] = l := by rw [List.getD_eq_getElem?_getD, List.getElem?_append_right (Nat.le_refl _), Nat.sub_self]; rfl
    rw [this]
    exact keep ⟨A, cap, rfl, hbl, hA, hne⟩

/-- eight bits more -/
theorem or_byte {x c : Nat} (hx : x < 16777216) (hc : c < 256) : bits BinOp.or IntKind.i64 ((x : Int) * 256) (c : Int) = ((x * 256 + c : Nat) : Int) := by
  have h0 : (x : Int) * 256 = ((x * 256 : Nat) : Int) := (Int.natCast_mul x 256).symm
  rw [h0]
  have h1 : (BitVec.ofInt 64 ((x * 256 : Nat) : Int)).toNat = x * 256 := by
    rw [BitVec.ofInt_natCast, BitVec.toNat_ofNat]; exact Nat.mod_eq_of_lt (by omega)
  have h2 : (BitVec.ofInt 64 (c : Int)).toNat = c := by
    rw [BitVec.ofInt_natCast, BitVec.toNat_ofNat]; exact Nat.mod_eq_of_lt (by omega)
  have h3 : x * 256 ||| c = x * 256 + c := by
    have := Nat.two_pow_add_eq_or_of_lt (i := 8) (b := c) (by omega) x
    rw [Nat.mul_comm x 256]
    exact this.symm
  show IntKind.i64.wrap ((BitVec.ofInt 64 ((x * 256 : Nat) : Int) ||| BitVec.ofInt 64 (c : Int)).toNat : Int) = _
  rw [BitVec.toNat_or, h1, h2, h3, IntWalk.i64_in _ (by omega)]

end Go.Proofs.YtldicnhpccionaaDoor
