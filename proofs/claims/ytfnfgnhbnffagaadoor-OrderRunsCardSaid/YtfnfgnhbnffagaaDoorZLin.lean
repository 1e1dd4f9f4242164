/-
Linear.
-/
import Derived.Test.YtfnfgnhbnffagaaDoorZCk
namespace Go.Proofs.YtfnfgnhbnffagaaDoor
open Go.RowKit
set_option linter.unusedVariables false
set_option linter.unusedSimpArgs false
set_option maxRecDepth 100000
set_option maxHeartbeats 4000000 in
theorem linear_any (v : Value) (ps : List Pr) (rs : List Rp) (ep : Int) (ms : List Mb) (A : Option Addr) (n cap : Nat) (es : List Ev) (w : World) (h : StS w v ps rs ep ms) (hf : Fits 0 ⟨ps, rs.map Rp.d, ep, ms⟩) (hpw : Pow w) (hes : ES w A n es) (hsl : SlOk A n) (hev : ∀ m ∈ es, EvS w m) (hn : n ≤ 8) :
    Calls Tryd.prog 9 #[v, .slice A n cap] w fun e w' => e = .returned (.tuple #[.bool (searchP n ⟨ps, rs.map Rp.d, ep, ms⟩ es), .int .i64 0]) ∧ Below w.heap.size w w' := by
  obtain ⟨Ap, cp, Ar, cr, Am, cm, hv, -⟩ := h.ex
  obtain ⟨np, hnp⟩ : ∃ n, ps.length = n := ⟨_, rfl⟩
  obtain ⟨nr, hnr⟩ : ∃ n, rs.length = n := ⟨_, rfl⟩
  obtain ⟨nm, hnm⟩ : ∃ n, ms.length = n := ⟨_, rfl⟩
  rw [hnp, hnr, hnm] at hv
  subst hv
  have hni : ¬ (8 : Int) < n := by omega
  obtain ⟨w1, hw1⟩ : ∃ w1, w.alloc (.cells #[.slice Ap np cp, .slice Ar nr cr, .int .i64 ep, .slice Am nm cm] 28) = w1 := ⟨_, rfl⟩
  have hb1 : Below w.heap.size w w1 := by rw [← hw1]; exact (Below.refl _ _).alloc (Nat.le_refl _) _
  have hg1 : w1.heap[w.heap.size]? = some (.cells #[.slice Ap np cp, .slice Ar nr cr, .int .i64 ep, .slice Am nm cm] 28 (0, 0)) := by rw [← hw1]; exact heap_alloc_new w _
  have r1 : rowAt w1 w.heap.size 0 4 = some #[.slice Ap np cp, .slice Ar nr cr, .int .i64 ep, .slice Am nm cm] := by unfold rowAt; rw [hg1]; exact cut_all _ _ rfl
  have hsr := search_any n _ ps rs ep ms A n cap 0 es w1 (h.below hb1) hf (hpw.below hb1) (hes.below hb1) hsl (fun m hm => (hev m hm).below hb1) (Nat.le_refl _) (by omega)
  have E := Lib.hid (And.intro hsr hb1)
  generalize searchP n ⟨ps, rs.map Rp.d, ep, ms⟩ es = R at E ⊢
  clear h hf hpw hes hsl hev hn hsr hb1 hg1 hnp hnr hnm
  go_enter Tryd.func9, Tryd.ntmps9
  go_wp2_with fail
  clear hw1
  refine E.out.1.mono ?_
  rintro e w2 ⟨rfl, hb2⟩
  have HB := Lib.hid (E.out.2.trans (hb2.mono E.out.2.size))
  clear hb2
  go_wp2_with fail
  go_ret2
  exact ⟨rfl, HB.out⟩
end Go.Proofs.YtfnfgnhbnffagaaDoor
