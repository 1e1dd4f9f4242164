/-
Insert of a reply, of a pair: into nil, too; a registry of one's own with other rows.
-/
import Derived.Test.YthaeofiplhbggaaDoorGl
namespace Go.Proofs.YthaeofiplhbggaaDoor
open Go.RowKit
set_option linter.unusedVariables false
set_option linter.unusedSimpArgs false
set_option maxRecDepth 100000
@[go_sem ↓] theorem ap_MRi (ty : TypeId) (args : Array Value) : Builtin.append_ #[23, 23] ty args = apRow #[23, 23] ty args := rfl
@[go_sem ↓] theorem ap_MPi (ty : TypeId) (args : Array Value) : Builtin.append_ #[22, 22] ty args = apRow #[22, 22] ty args := rfl
set_option maxHeartbeats 2000000 in
theorem insert_nilR {B vb : Nat} {m : Rp} {w : World} (hm : m.ok) (hB : B ≤ w.heap.size) (hvb : w.heap[vb]? = some (.cells m.arr 43 (0, 0))) :
    Calls Tryd.prog 20 #[.slice none 0 0, .int .i64 0, .slice (some ⟨vb, 0, none⟩) 1 1] w (InsertedR [] m 0 0 B (.slice none 0 0) w) := by
  obtain ⟨i0, hi, hz0, hz1, hz2⟩ := info_parts infoMR
  obtain ⟨v', w1, hrun, hown1, hgrow, _, hat⟩ := run_append_own_at (P := Tryd.prog) w B 23 23 43 i0 (.agg Rp.zero.arr) 4 48 Tryd.underlying23 hi hz0 hz1 hz2 (Rp.size Rp.zero_ok) (by decide)
    (.slice none 0 0) 0 [] (World.ownsRow_nil _ _ _ _) ⟨vb, 0, none⟩ 1 1 m.cells (by rw [Rp.len hm])
    (fun j u hu => by rw [Addr.add_mid, Nat.zero_add, cell_of_row w vb j m.arr 43 (0, 0) hvb]; simpa [Rp.arr] using hu)
    (cells_onesR m) (by simp only [maxLen]; omega) (by omega) hB
  have hr : (apRow #[23, 23] 23 #[.slice none 0 0, .slice (some ⟨vb, 0, none⟩) 1 1]).run Tryd.prog w = .ok v' w1 := hrun
  have HF := Lib.hid (show InsertedR [] m 0 0 B (.slice none 0 0) w (.returned v') w1 from ⟨v', rfl, by
    rw [List.take_nil, List.drop_nil, List.nil_append, flatC_one]; exact hown1, hgrow, hat.imp id (fun h => ⟨_, h, Nat.le_refl _⟩)⟩)
  clear hrun hown1 hgrow hat hi hz0 hz1 hz2 hvb
  go_enter Tryd.func20, Tryd.ntmps20
  go_wp2_with fail
  go_ret
  exact HF.out
theorem insertR {B n i vb : Nat} {v : Value} {ms : List Rp} {m : Rp} {w : World} (h : w.ownsRow B 43 4 v n (flatC Rp.cells ms)) (hok : OkAllR ms) (hm : m.ok) (hi : i ≤ n) (hn : (n + 1) * 48 ≤ 140737488355328) (hB : B ≤ w.heap.size)
    (hvb : w.heap[vb]? = some (.cells m.arr 43 (0, 0))) (hne : v.ownBlock ≠ some vb) :
    Calls Tryd.prog 20 #[v, .int .i64 (i : Int), .slice (some ⟨vb, 0, none⟩) 1 1] w (InsertedR ms m i n B v w) := by
  rcases h.2 with ⟨rfl, rfl⟩ | ⟨g, cap, cur, hv, -⟩
  · obtain rfl : i = 0 := by omega
    have hl : ms = [] := by
      have := h.1
      rw [flatC_length hok.len] at this
      exact List.eq_nil_of_length_eq_zero (by omega)
    subst hl
    exact insert_nilR hm hB hvb
  · exact insert_anyR h hok hm hi hn hB hvb hne ⟨g, cap, hv⟩
set_option maxHeartbeats 2000000 in
theorem insert_nilP {B vb : Nat} {m : Pr} {w : World} (hm : m.ok) (hB : B ≤ w.heap.size) (hvb : w.heap[vb]? = some (.cells m.arr 51 (0, 0))) :
    Calls Tryd.prog 37 #[.slice none 0 0, .int .i64 0, .slice (some ⟨vb, 0, none⟩) 1 1] w (InsertedP [] m 0 0 B (.slice none 0 0) w) := by
  obtain ⟨i0, hi, hz0, hz1, hz2⟩ := info_parts infoMP
  obtain ⟨v', w1, hrun, hown1, hgrow, _, hat⟩ := run_append_own_at (P := Tryd.prog) w B 22 22 51 i0 (.agg Pr.zero.arr) 2 32 Tryd.underlying22 hi hz0 hz1 hz2 (Pr.size Pr.zero_ok) (by decide)
    (.slice none 0 0) 0 [] (World.ownsRow_nil _ _ _ _) ⟨vb, 0, none⟩ 1 1 m.cells (by rw [Pr.len hm])
    (fun j u hu => by rw [Addr.add_mid, Nat.zero_add, cell_of_row w vb j m.arr 51 (0, 0) hvb]; simpa [Pr.arr] using hu)
    (cells_onesP m) (by simp only [maxLen]; omega) (by omega) hB
  have hr : (apRow #[22, 22] 22 #[.slice none 0 0, .slice (some ⟨vb, 0, none⟩) 1 1]).run Tryd.prog w = .ok v' w1 := hrun
  have HF := Lib.hid (show InsertedP [] m 0 0 B (.slice none 0 0) w (.returned v') w1 from ⟨v', rfl, by
    rw [List.take_nil, List.drop_nil, List.nil_append, flatC_one]; exact hown1, hgrow, hat.imp id (fun h => ⟨_, h, Nat.le_refl _⟩)⟩)
  clear hrun hown1 hgrow hat hi hz0 hz1 hz2 hvb
  go_enter Tryd.func37, Tryd.ntmps37
  go_wp2_with fail
  go_ret
  exact HF.out
theorem insertP {B n i vb : Nat} {v : Value} {ms : List Pr} {m : Pr} {w : World} (h : w.ownsRow B 51 2 v n (flatC Pr.cells ms)) (hok : OkAllP ms) (hm : m.ok) (hi : i ≤ n) (hn : (n + 1) * 32 ≤ 140737488355328) (hB : B ≤ w.heap.size)
    (hvb : w.heap[vb]? = some (.cells m.arr 51 (0, 0))) (hne : v.ownBlock ≠ some vb) :
    Calls Tryd.prog 37 #[v, .int .i64 (i : Int), .slice (some ⟨vb, 0, none⟩) 1 1] w (InsertedP ms m i n B v w) := by
  rcases h.2 with ⟨rfl, rfl⟩ | ⟨g, cap, cur, hv, -⟩
  · obtain rfl : i = 0 := by omega
    have hl : ms = [] := by
      have := h.1
      rw [flatC_length hok.len] at this
      exact List.eq_nil_of_length_eq_zero (by omega)
    subst hl
    exact insert_nilP hm hB hvb
  · exact insert_anyP h hok hm hi hn hB hvb hne ⟨g, cap, hv⟩
/-- other replies, one of them new -/
theorem OwnS.newR {B O : Nat} {w w' : World} {vp vr vr' vm : Value} {ps : List Pr} {rs rs' : List Rp} {ms : List Mb} (h : OwnS B O w vp vr vm ps rs ms) {x : Rp} (hx : x.ok) (hO : O < w.heap.size)
    (ht : OT w B x.v x.vals) (hxb : ∀ k, x.v.ownBlock = some k → k ≠ O ∧ vp.ownBlock ≠ some k ∧ vr.ownBlock ≠ some k) (hmem : ∀ y ∈ rs', y ∈ rs ∨ y = x)
    (ho : w'.ownsRow B 43 4 vr' rs'.length (flatC Rp.cells rs')) (m : Mv (fun k => vr.ownBlock = some k) w w') (hb : vr'.ownBlock = vr.ownBlock ∨ ∃ g, vr'.ownBlock = some g ∧ w.heap.size ≤ g) : OwnS B O w' vp vr' vm ps rs' ms := by
  have hr : ∀ k, vr'.ownBlock = some k → vr.ownBlock = some k ∨ w.heap.size ≤ k := fun k hk => by
    rcases hb with hb | ⟨g, hb, hg⟩
    · exact .inl (hb ▸ hk)
    · rw [hk] at hb; cases hb; exact .inr hg
  refine ⟨own_mv h.p m (fun g hg c => (h.ap g hg).2.1 c), ho, own_mv h.m m (fun g hg c => (h.ar g c).2.1 hg), fun y hy => ?_, h.okp, fun y hy => ?_, h.okm, fun k hk => ⟨(h.ap k hk).1, fun c => ?_, (h.ap k hk).2.2.1, fun y hy => ?_⟩, fun k hk => ⟨?_, ?_, fun y hy => ?_⟩, h.am, fun y hy => ?_⟩
  · rcases hmem y hy with hy | hy
    · exact own_mv (h.t y hy) m (fun g hg c => (h.ar g c).2.2 y hy hg)
    · subst hy
      exact own_mv ht m (fun g hg c => (hxb g hg).2.2 c)
  · rcases hmem y hy with hy | hy
    · exact h.okr y hy
    · subst hy; exact hx
  · rcases hr k c with c | c
    · exact (h.ap k hk).2.1 c
    · have := (own_lt h.p hk).2; omega
  · rcases hmem y hy with hy | hy
    · exact (h.ap k hk).2.2.2 y hy
    · subst hy
      exact fun c => (hxb k c).2.1 hk
  · rcases hr k hk with c | c
    · exact (h.ar k c).1
    · omega
  · rcases hr k hk with c | c
    · exact (h.ar k c).2.1
    · intro e; have := (own_lt h.m e).2; omega
  · rcases hmem y hy with hy | hy
    · rcases hr k hk with c | c
      · exact (h.ar k c).2.2 y hy
      · intro e; have := (own_lt (h.t y hy) e).2; omega
    · subst hy
      intro e
      rcases hr k hk with c | c
      · exact (hxb k e).2.2 c
      · have := (own_lt ht e).2; omega
  · rcases hmem y hy with hy | hy
    · exact h.at_ y hy
    · subst hy
      exact fun c => (hxb O c).1 rfl
/-- other pairs -/
theorem OwnS.newP {B O : Nat} {w w' : World} {vp vp' vr vm : Value} {ps ps' : List Pr} {rs : List Rp} {ms : List Mb} (h : OwnS B O w vp vr vm ps rs ms) (hO : O < w.heap.size) (hok : OkAllP ps')
    (ho : w'.ownsRow B 51 2 vp' ps'.length (flatC Pr.cells ps')) (m : Mv (fun k => vp.ownBlock = some k) w w') (hb : vp'.ownBlock = vp.ownBlock ∨ ∃ g, vp'.ownBlock = some g ∧ w.heap.size ≤ g) : OwnS B O w' vp' vr vm ps' rs ms := by
  have hr : ∀ k, vp'.ownBlock = some k → vp.ownBlock = some k ∨ w.heap.size ≤ k := fun k hk => by
    rcases hb with hb | ⟨g, hb, hg⟩
    · exact .inl (hb ▸ hk)
    · rw [hk] at hb; cases hb; exact .inr hg
  refine ⟨ho, own_mv h.r m (fun g hg c => (h.ap g c).2.1 hg), own_mv h.m m (fun g hg c => (h.ap g c).2.2.1 hg), fun y hy => own_mv (h.t y hy) m (fun g hg c => (h.ap g c).2.2.2 y hy hg), hok, h.okr, h.okm, fun k hk => ?_, h.ar, h.am, h.at_⟩
  rcases hr k hk with c | c
  · exact h.ap k c
  · exact ⟨by omega, fun e => by have := (own_lt h.r e).2; omega, fun e => by have := (own_lt h.m e).2; omega, fun y hy e => by have := (own_lt (h.t y hy) e).2; omega⟩
end Go.Proofs.YthaeofiplhbggaaDoor
