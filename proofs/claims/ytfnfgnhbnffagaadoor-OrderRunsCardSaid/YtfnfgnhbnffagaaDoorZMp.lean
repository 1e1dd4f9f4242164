/-
Maps whose keys are names (whose request it is, and which one).
-/
import Derived.Test.YtfnfgnhbnffagaaDoorZSx
import Derived.Maps.Own
import Derived.Maps.OwnOps
import Derived.Maps.OwnSet
import Derived.Maps.Views
import Derived.DeepKeys4
namespace Go.Proofs.YtfnfgnhbnffagaaDoor
open Go.RowKit
open Go.Maps (Keyed)
set_option linter.unusedVariables false
set_option linter.unusedSimpArgs false
set_option maxRecDepth 100000
theorem laidOut : laidOutB Tryd.prog = true := by kernel_rfl
theorem rowName : (66 : TypeId) < Tryd.prog.types.size := of_decide_eq_true (by kernel_rfl)
theorem wideName : (match Tryd.prog.underlying 66 with | some (.array _ _) | some (.struct _) => true | _ => false) = true := by rw [Tryd.underlying66]
theorem lawName : WideMaps.KeyLaw Tryd.prog 66 := deep_law_laid laidOut (m := 2) (by omega) rowName (by kernel_rfl) wideName
theorem keyed : Keyed Tryd.prog 66 := Keyed.of_law lawName
theorem cellsName : Tryd.prog.cellsOf 66 = 2 := by kernel_rfl
theorem cellsInt : Tryd.prog.cellsOf 3 = 1 := by kernel_rfl
theorem typeName : Tryd.prog.keyType 66 = true := by kernel_rfl
def nameV (c m : Int) : Value := .agg #[.int .i64 c, .int .i64 m]
theorem key_of {c m : Int} (hc : (Lit.int .i64 c).wf = true) (hm : (Lit.int .i64 m).wf = true) : ∃ l, keyOf Tryd.prog 66 (nameV c m) = some l := by
  unfold keyOf nameV
  rw [Tryd.underlying66]
  simp only
  have hf : (Value.agg #[.int .i64 c, .int .i64 m]).formed Tryd.prog 66 = true := by simp [Value.formed, Tryd.underlying66, cellsName]
  rw [typeName, hf]
  have hs : 1 ≤ Tryd.prog.types.size := of_decide_eq_true (by kernel_rfl)
  obtain ⟨k, hk⟩ : ∃ k, Tryd.prog.types.size + 1 = k + 1 + 1 := ⟨Tryd.prog.types.size - 1, by omega⟩
  rw [hk]
  have h0 : ∀ x : Int, (Lit.int .i64 x).wf = true → Tryd.prog.keyLits (k + 1) 3 [.int .i64 x] = some [.int .i64 x] := fun x hx => by
    unfold Program.keyLits
    rw [Tryd.underlying3]
    simp [hx]
  unfold Program.keyLits
  rw [Tryd.underlying66]
  simp [cellsName, cellsInt, h0 c hc, h0 m hm, Value.cells]
noncomputable def kl (c m : Int) : Lit := (keyOf Tryd.prog 66 (nameV c m)).getD (.bool false)
theorem kl_of {c m : Int} (hc : (Lit.int .i64 c).wf = true) (hm : (Lit.int .i64 m).wf = true) : keyOf Tryd.prog 66 (nameV c m) = some (kl c m) := by
  obtain ⟨l, hl⟩ := key_of hc hm
  unfold kl
  rw [hl]
  rfl
theorem kl_inj {c m c' m' : Int} (hc : (Lit.int .i64 c).wf = true) (hm : (Lit.int .i64 m).wf = true) (hc' : (Lit.int .i64 c').wf = true) (hm' : (Lit.int .i64 m').wf = true) (h : kl c m = kl c' m') : c = c' ∧ m = m' := by
  have h1 := kl_of hc hm
  have h2 := kl_of hc' hm'
  rw [h] at h1
  have := lawName.inj h1 h2
  unfold nameV at this
  simp at this
  exact this
/-- any element, as it stands -/
def heldE (v : Value) : Option (DataW Value × List MemPlace) := some (.held v, [])
/-- a map under way, told as a function -/
structure MapF (w : World) (b n : Nat) (f : Int → Int → Option Value) : Prop where
  ex : ∃ D : DataW Value, w.ownsMap Tryd.prog 66 heldE b n D ∧ Maps.IsMap D ∧ ∀ c m, (Lit.int .i64 c).wf = true → (Lit.int .i64 m).wf = true → ∀ z, D.atKey (kl c m) z = match f c m with | some v => .held v | none => z
theorem MapF.lt {w : World} {b n : Nat} {f : Int → Int → Option Value} (h : MapF w b n f) : b < w.heap.size := h.ex.elim fun _ h => h.1.lt
theorem MapF.mv {w w' : World} {b n : Nat} {f : Int → Int → Option Value} {fp : Nat → Prop} (h : MapF w b n f) (m : Mv fp w w') (hf : ¬ fp b) : MapF w' b n f := by
  obtain ⟨D, ⟨es, clock, hb, F, hs, hD⟩, h2, h3⟩ := h.ex
  exact ⟨D, ⟨es, clock, (m.block b h.lt hf).trans hb, F, hs, hD⟩, h2, h3⟩
theorem MapF.mono {w : World} {b n n' : Nat} {f : Int → Int → Option Value} (h : MapF w b n f) (hn : n ≤ n') : MapF w b n' f := by
  obtain ⟨D, h1, h2, h3⟩ := h.ex
  exact ⟨D, h1.mono hn, h2, h3⟩
theorem MapF.made (w : World) : MapF (w.alloc (.map #[] 0)) w.heap.size 0 (fun _ _ => none) :=
  ⟨.map [], World.ownsMap_made w _ _ _, Maps.isMap_empty, fun c m hc hm z => by rfl⟩
/-- one entry is set -/
def setF (f : Int → Int → Option Value) (c m : Int) (v : Value) : Int → Int → Option Value := fun c' m' => if c' = c ∧ m' = m then some v else f c' m'
theorem MapF.look {w : World} {b n : Nat} {f : Int → Int → Option Value} (h : MapF w b n f) {t e : TypeId} (ht : Tryd.prog.underlying t = some (.map 66 e)) {z : Value} (hz : (zeroValue e).run Tryd.prog w = .ok z w) (ok : Bool) {c m : Int} (hc : (Lit.int .i64 c).wf = true) (hm : (Lit.int .i64 m).wf = true) :
    (Instr.lookup t (.map (some b)) (nameV c m) ok).run Tryd.prog w = .ok (match f c m with | some v => (if ok then .tuple #[v, .bool true] else v) | none => (if ok then .tuple #[z, .bool false] else z)) w := by
  obtain ⟨D, ⟨es, clock, hb, F, hs, rfl⟩, h2, h3⟩ := h.ex
  have ha := h3 c m hc hm
  rcases Maps.fit_look ok keyed ht hz hb F (kl_of hc hm) with ⟨hrun, _, hat⟩ | ⟨e0, y, _, _, hrun, hRv, hat, _⟩
  · rw [hrun]
    have h4 := ha (.held (.bool true))
    have h5 := ha (.held (.bool false))
    rw [hat] at h4 h5
    cases hf : f c m with
    | none => rfl
    | some v =>
      rw [hf] at h4 h5
      simp only [DataW.held.injEq] at h4 h5
      rw [← h4] at h5
      cases h5
  · rw [hrun]
    have h4 := ha (.held (.bool true))
    have h5 := ha (.held (.bool false))
    rw [hat] at h4 h5
    cases hRv
    cases hf : f c m with
    | none =>
      rw [hf] at h4 h5
      rw [h4] at h5
      simp at h5
    | some v =>
      rw [hf] at h4
      simp only [DataW.held.injEq] at h4
      rw [h4]
theorem MapF.store {w : World} {b n : Nat} {f : Int → Int → Option Value} (h : MapF w b n f) {t e : TypeId} (ht : Tryd.prog.underlying t = some (.map 66 e)) (hn : n < maxLen) {c m : Int} (hc : (Lit.int .i64 c).wf = true) (hm : (Lit.int .i64 m).wf = true) (v : Value) :
    ∃ w', (Instr.mapUpdate t (.map (some b)) (nameV c m) v).run Tryd.prog w = .ok () w' ∧ MapF w' b (n + 1) (setF f c m v) ∧ Mv (· = b) w w' := by
  obtain ⟨D, h1, h2, h3⟩ := h.ex
  obtain ⟨w', hr, ho, hg⟩ := h1.update keyed ht hn (kl_of hc hm) (val := v) (d := .held v) (ps := []) rfl
  refine ⟨w', hr, ⟨_, ho, h2.put _ _, fun c' m' hc' hm' z => ?_⟩, Mv.of_grown (fp := (· = b)) hg (fun k hk => by cases hk; rfl)⟩
  unfold setF
  by_cases he : c' = c ∧ m' = m
  · rw [if_pos he, he.1, he.2]
    exact Maps.atKey_put_same h2 (keyed.key (kl_of hc hm)) _ _
  · rw [if_neg he, Maps.atKey_put_other (fun e => he (kl_inj hc' hm' hc hm e))]
    exact h3 c' m' hc' hm' z
end Go.Proofs.YtfnfgnhbnffagaaDoor
