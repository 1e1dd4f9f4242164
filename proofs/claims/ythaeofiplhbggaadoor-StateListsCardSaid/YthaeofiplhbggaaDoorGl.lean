/-
More than is played?
-/
import Derived.Test.YthaeofiplhbggaaDoorRi
namespace Go.Proofs.YthaeofiplhbggaaDoor
open Go.RowKit
set_option linter.unusedVariables false
set_option linter.unusedSimpArgs false
set_option maxRecDepth 100000
def GreatL (ps : List Pr) (rs : List Rp) (ms : List Mb) (w : World) (e : Ending) (w' : World) : Prop :=
  ∃ b, e = .returned (.bool b) ∧ (b = false → Fit ps rs ms 16384 ∧ Asc ps rs) ∧ Below w.heap.size w w'
theorem greatL_any (v : Value) (ps : List Pr) (rs : List Rp) (ep : Int) (ms : List Mb) (w : World) (h : StS w v ps rs ep ms) : Calls Tryd.prog 6 #[v, .slice none 0 0] w (GreatL ps rs ms w) := by
  obtain ⟨Ap, cp, Ar, cr, Am, cm, hv, -⟩ := h.ex
  subst hv
  have hB : Below w.heap.size w (w.alloc (.cells #[.slice Ap ps.length cp, .slice Ar rs.length cr, .int .i64 ep, .slice Am ms.length cm] 28)) := (Below.refl _ _).alloc (Nat.le_refl _) _
  have H := Lib.hid (And.intro h hB)
  clear h hB
  go_enter Tryd.func6, Tryd.ntmps6
  go_wp2_with fail
  refine (Great_any _ ps rs ep ms 16384 _ (H.out.1.below H.out.2) (by omega)).mono ?_
  rintro e w1 ⟨b, rfl, hf, hb1⟩
  cases b with
  | true =>
    go_wp2_with fail
    go_ret
    exact ⟨true, rfl, (fun h => by cases h), H.out.2.trans (hb1.mono H.out.2.size)⟩
  | false =>
    have hfit := hf rfl
    have hB1 := H.out.2.trans (hb1.mono H.out.2.size)
    have hr : rowAt w1 w.heap.size 0 4 = some #[.slice Ap ps.length cp, .slice Ar rs.length cr, .int .i64 ep, .slice Am ms.length cm] := (rowAt_below hb1 (by simp) 0 4).trans (by rw [rowAt_alloc_at _ _ _ _ _ _ rfl]; rfl)
    clear hf
    have HF := Lib.hid hfit
    clear hfit
    go_wp2_with fail
    refine (Rises_any _ ps rs ep ms _ (H.out.1.below hB1) (HF.out.p) (HF.out.r)).mono ?_
    rintro e w2 ⟨b2, rfl, ha, hb2⟩
    have HB2 := Lib.hid (hB1.trans (hb2.mono hB1.size))
    clear hb1 hB1 hb2 hr
    cases b2 with
    | false =>
      clear ha
      go_wp2_with fail
      go_ret
      exact ⟨true, rfl, (fun h => by cases h), HB2.out⟩
    | true =>
      have HA := Lib.hid (ha rfl)
      clear ha
      go_wp2_with fail
      refine wp_loop_rounds 1 ?_
      rw [rounds_succ]
      go_wp2_with fail
      go_ret
      exact ⟨false, rfl, fun _ => ⟨HF.out, HA.out⟩, HB2.out⟩
end Go.Proofs.YthaeofiplhbggaaDoor
