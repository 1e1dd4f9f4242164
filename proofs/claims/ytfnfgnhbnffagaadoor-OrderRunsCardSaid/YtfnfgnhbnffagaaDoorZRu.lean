/-
The document's answer: a fresh request is executed.
-/
import Derived.Test.YtfnfgnhbnffagaaDoorZRh
namespace Go.Proofs.YtfnfgnhbnffagaaDoor
open Go.RowKit
set_option linter.unusedVariables false
set_option linter.unusedSimpArgs false
set_option maxRecDepth 100000
@[go_sem ↓] theorem ap_RR (ty : TypeId) (args : Array Value) : Builtin.append_ #[23, 23] ty args = apRow #[23, 23] ty args := rfl
/-- one more behind the others -/
theorem pushR {w : World} {B n : Nat} {v : Value} {qs : List Rp} (ty : TypeId) (h : w.ownsRow B 49 4 v n (flatC Rp.cells qs)) {x : Rp} (hx : x.ok) (hn : n ≤ 100000) (hB : B ≤ w.heap.size) :
    ∃ v' w', (apRow #[23, 23] ty #[v, .slice (some ⟨w.heap.size, 0, none⟩) 1 1]).run Tryd.prog (w.alloc (.cells x.arr 49)) = .ok v' w' ∧ w'.ownsRow B 49 4 v' (n + 1) (flatC Rp.cells (qs ++ [x])) ∧ Below B w w' ∧ Mv (fun k => v.ownBlock = some k) w w' := by
  obtain ⟨i0, hi, hz0, hz1, hz2⟩ := info_parts infoMR
  obtain ⟨v', w', h1, h2, h3, -, h5⟩ := run_append_own_at (P := Tryd.prog) (w.alloc (.cells x.arr 49)) B 23 ty 49 i0 (.agg Rp.zero.arr) 4 48 Tryd.underlying23 hi hz0 hz1 hz2 rfl (by decide) v n (flatC Rp.cells qs) (World.ownsRow.alloc h _) ⟨w.heap.size, 0, none⟩ 1 1 x.cells (by rw [Rp.len hx])
    (fun j u hu => by rw [Addr.add_mid, Nat.zero_add, World.cell?_alloc_at _ _ _ _ rfl]; simpa [Rp.arr] using hu) (cells_onesR x) (by simp only [maxLen]; omega) (by omega) (by simp; omega)
  have hmv : Mv (fun k => v.ownBlock = some k) w w' := (Mv.alloc w _).trans (Mv.of_grown (fp := fun k => v.ownBlock = some k) h3 (fun k hk => hk)) (fun i _ c => c)
  refine ⟨v', w', h1, ?_, hmv.below hB (fun k hk => (own_lt h hk).1), hmv⟩
  rw [flatC_append, flatC_one]
  exact h2
def withAR (a : Rp) (s : List Rp × Bool) (x : Rp) : List Rp × Bool := if (!s.2 && decide (a.client ≤ x.client)) = true then (s.1 ++ [a], true) else s
def withSR (a : Rp) (s : List Rp × Bool) (x : Rp) : List Rp × Bool := if (x.client == a.client) = true then withAR a s x else ((withAR a s x).1 ++ [x], (withAR a s x).2)
def withR (rs : List Rp) (a : Rp) : List Rp := if (rs.foldl (withSR a) ([], false)).2 = true then (rs.foldl (withSR a) ([], false)).1 else (rs.foldl (withSR a) ([], false)).1 ++ [a]
theorem withSR_mem {a : Rp} : ∀ (rs : List Rp) (s : List Rp × Bool) (x : Rp), x ∈ (rs.foldl (withSR a) s).1 → x = a ∨ x ∈ s.1 ∨ x ∈ rs := by
  intro rs
  induction rs with
  | nil => intro s x hx; exact .inr (.inl hx)
  | cons y t ih =>
    intro s x hx
    rw [List.foldl_cons] at hx
    have hA : ∀ z, z ∈ (withAR a s y).1 → z = a ∨ z ∈ s.1 := fun z hz => by
      unfold withAR at hz
      split at hz
      · rcases List.mem_append.1 hz with h | h
        · exact .inr h
        · exact .inl (List.mem_singleton.1 h)
      · exact .inr hz
    rcases ih _ _ hx with h | h | h
    · exact .inl h
    · unfold withSR at h
      split at h
      · rcases hA _ h with h | h
        · exact .inl h
        · exact .inr (.inl h)
      · rcases List.mem_append.1 h with h | h
        · rcases hA _ h with h | h
          · exact .inl h
          · exact .inr (.inl h)
        · exact .inr (.inr (by rw [List.mem_singleton.1 h]; exact List.mem_cons_self))
    · exact .inr (.inr (List.mem_cons_of_mem _ h))
theorem withR_mem {rs : List Rp} {a x : Rp} (h : x ∈ withR rs a) : x = a ∨ x ∈ rs := by
  unfold withR at h
  split at h
  · rcases withSR_mem rs _ x h with h | h | h
    · exact .inl h
    · cases h
    · exact .inr h
  · rcases List.mem_append.1 h with h | h
    · rcases withSR_mem rs _ x h with h | h | h
      · exact .inl h
      · cases h
      · exact .inr h
    · exact .inl (List.mem_singleton.1 h)
theorem withSR_keep {a : Rp} : ∀ (rs : List Rp) (s : List Rp × Bool) (x : Rp), x.client ≠ a.client → x ∈ s.1 ∨ x ∈ rs → x ∈ (rs.foldl (withSR a) s).1 := by
  intro rs
  induction rs with
  | nil =>
    intro s x _ hx
    rcases hx with h | h
    · exact h
    · cases h
  | cons y t ih =>
    intro s x hne hx
    rw [List.foldl_cons]
    have hA : ∀ z, z ∈ s.1 → z ∈ (withAR a s y).1 := fun z hz => by
      unfold withAR
      split
      · exact List.mem_append_left _ hz
      · exact hz
    refine ih _ _ hne ?_
    rcases hx with h | h
    · left
      unfold withSR
      split
      · exact hA _ h
      · exact List.mem_append_left _ (hA _ h)
    · rcases List.mem_cons.1 h with rfl | h
      · left
        unfold withSR
        rw [if_neg (by simpa using hne)]
        exact List.mem_append_right _ (List.mem_singleton.2 rfl)
      · exact .inr h
theorem withR_keep {rs : List Rp} {a x : Rp} (hne : x.client ≠ a.client) (h : x ∈ rs) : x ∈ withR rs a := by
  have h1 := withSR_keep rs ([], false) x hne (.inr h)
  unfold withR
  split
  · exact h1
  · exact List.mem_append_left _ h1
theorem withSR_len {a : Rp} : ∀ (rs : List Rp) (s : List Rp × Bool), (rs.foldl (withSR a) s).1.length + (if (rs.foldl (withSR a) s).2 = true then 0 else 1) ≤ s.1.length + rs.length + (if s.2 = true then 0 else 1) := by
  intro rs
  induction rs with
  | nil => intro s; exact Nat.le_refl _
  | cons y t ih =>
    intro s
    rw [List.foldl_cons]
    have := ih (withSR a s y)
    have hA : (withAR a s y).1.length + (if (withAR a s y).2 = true then 0 else 1) ≤ s.1.length + (if s.2 = true then 0 else 1) := by
      unfold withAR
      obtain ⟨l, b⟩ := s
      cases b <;> simp <;> split <;> simp_all
    have h2 : (withSR a s y).1.length + (if (withSR a s y).2 = true then 0 else 1) ≤ s.1.length + 1 + (if s.2 = true then 0 else 1) := by
      unfold withSR
      split
      · omega
      · simp only [List.length_append, List.length_singleton]; omega
    rw [List.length_cons]
    omega
theorem withR_len {rs : List Rp} {a : Rp} : (withR rs a).length ≤ rs.length + 1 := by
  have h1 := withSR_len (a := a) rs ([], false)
  unfold withR
  split
  · rename_i h; rw [if_pos h] at h1; simp at h1; omega
  · rename_i h; rw [if_neg h] at h1; rw [List.length_append]; simp at h1 ⊢; omega
def ApQ (N : Nat → Prop) (ps : List Pr) (rs : List Rp) (ep : Int) (ms : List Mb) (q : Rq) (w : World) (e : Ending) (w' : World) : Prop :=
  ∃ v' code Av nv cv ps' rs' ep' ms' out, e = .returned (.tuple #[v', .agg #[.int .i64 q.client, .int .i64 q.num, .int .i64 code, .slice Av nv cv]]) ∧ (∀ w'', Mv (Nb N w) w' w'' → StS w'' v' ps' rs' ep' ms' ∧ TS w'' Av nv out) ∧ SlOk Av nv ∧ (code, out, ps', ep', ms') = doesP ps ep ms q.op ∧ rs' = withR rs ⟨q.client, q.num, code, Av, cv, out⟩ ∧ Below w.heap.size w w'
/-- a registry, other replies -/
theorem StS.reps {w w' : World} {v1 v2 v3 v4 : Value} {ps : List Pr} {rs rs' : List Rp} {ep : Int} {ms : List Mb} (h : StS w (.agg #[v1, v2, v3, v4]) ps rs ep ms) (hb : Below w.heap.size w w') {A : Option Addr} {n cap : Nat} (hp : RS w' A n rs') (hs : SlOk A n) (ht : ∀ r ∈ rs', TS w' r.A r.vals.length r.vals ∧ SlOk r.A r.vals.length) : StS w' (.agg #[v1, .slice A n cap, v3, v4]) ps rs' ep ms := by
  obtain ⟨Ap, cp, Ar, cr, Am, cm, hv, h1, h2, h3, h4, h5, h6, h7⟩ := h.ex
  cases hv
  obtain rfl := hp.len
  exact ⟨⟨Ap, cp, A, cap, Am, cm, rfl, h1.below hb, h2, hp, hs, h5.below hb, h6, ht⟩⟩
theorem Apf.setS {W w : World} {sa qa aa : Array Value} (h : Apf W sa qa aa w) (i : Nat) (v : Value) : Apf W (sa.setIfInBounds i v) qa aa (w.setCell ⟨W.heap.size, i, none⟩ v) := by
  have hn : ∀ k, k ≠ W.heap.size → (w.setCell ⟨W.heap.size, i, none⟩ v).heap[k]? = w.heap[k]? := fun k hk => heap_setCell_other _ _ _ _ (by simpa using hk)
  exact ⟨h.b.trans ((Mv.setCell (fp := (· = W.heap.size)) w ⟨W.heap.size, i, none⟩ v rfl).below h.b.size (fun i hi => by omega)), heap_setCell_same _ _ _ _ _ _ h.s, (hn _ (by omega)).trans h.q, h.z.of_block (hn _ (by omega)), h.y.of_block (hn _ (by omega)), (hn _ (by omega)).trans h.a⟩
theorem Apf.putS {W w : World} {sa sa' qa aa : Array Value} (h : Apf W sa qa aa w) (hz : sa.size = 4) (hs : sa'.size = 4) (h1 : oneCells sa' = true) : putRow w W.heap.size 4 sa' = some (w.setRow W.heap.size sa') ∧ Apf W sa' qa aa (w.setRow W.heap.size sa') := by
  obtain ⟨p1, -, -⟩ := Bx.put (w := w) (g := W.heap.size) (n := 4) (t := 28) ⟨sa, h.s, hz⟩ hs h1
  have hn : ∀ k, k ≠ W.heap.size → (w.setRow W.heap.size sa').heap[k]? = w.heap[k]? := fun k hk => setRow_other _ _ _ _ hk
  exact ⟨p1, ⟨below_setRow h.b (Nat.le_refl _) _, setRow_heap w _ sa _ 28 (0, 0) h.s, (hn _ (by omega)).trans h.q, h.z.of_block (hn _ (by omega)), h.y.of_block (hn _ (by omega)), (hn _ (by omega)).trans h.a⟩⟩
theorem atR_unique {rs : List Rp} {c i j : Int} (h1 : AtR rs c i) (h2 : AtR rs c j) : i = j := by
  rcases h1 with ⟨rfl, a1⟩ | ⟨k, hk, rfl, a1, a2⟩ <;> rcases h2 with ⟨rfl, b1⟩ | ⟨l, hl, rfl, b1, b2⟩
  · rfl
  · exact absurd b1 (a1 l hl)
  · exact absurd a1 (b1 k hk)
  · rcases Nat.lt_trichotomy k l with c | c | c
    · exact absurd a1 (b2 k c)
    · rw [c]
    · exact absurd b1 (a2 l c)
set_option maxHeartbeats 16000000 in
theorem apply10_any (v : Value) (ps : List Pr) (rs : List Rp) (ep : Int) (ms : List Mb) (q : Rq) (i : Int) (N : Nat → Prop) (w : World) (hN : ∀ w'', Mv N w w'' → StS w'' v ps rs ep ms) (hs : SrtP ps) (hq : q.ok) (hg : rqGood q = true) (hi : AtR rs q.client i) (hfr : ∀ k : Nat, i = (k : Int) → (rs.getD k default).num < q.num) (hn : ps.length ≤ 10000) (hr : rs.length ≤ 10000) (hmm : ms.length ≤ 90000 ∧ (Lit.int .i64 ep).wf = true ∧ Pow w) :
    Calls Tryd.prog 13 #[v, .agg q.arr] w (ApQ N ps rs ep ms q w) := by
  have h := hN w (Mv.refl _ _)
  have hokm : OkAll ms := by obtain ⟨_, _, _, _, _, _, _, _, _, _, _, M, _⟩ := h.ex; exact M.ok
  have hokp : OkAllP ps := by obtain ⟨_, _, _, _, _, _, _, M, _⟩ := h.ex; exact M.ok
  obtain ⟨Ap, cp, Ar, cr, Am, cm, hv, -, -, hR, hSr, -, -, hT⟩ := h.ex
  obtain ⟨np, hnp⟩ : ∃ n, ps.length = n := ⟨_, rfl⟩
  obtain ⟨nr, hnr⟩ : ∃ n, rs.length = n := ⟨_, rfl⟩
  obtain ⟨nm, hnm⟩ : ∃ n, ms.length = n := ⟨_, rfl⟩
  rw [hnr] at hR hSr
  rw [hnp, hnr, hnm] at hv
  subst hv
  have hni : (nr : Int) ≤ 10000 := by omega
  have qs := Rq.sz hq
  have qo := Rq.ones q
  have qc := Rq.cutAll (Rq.size hq)
  have q0 := q.at0
  have q1 := q.at1
  have S5 := Apf.start w #[.slice Ap np cp, .slice Ar nr cr, .int .i64 ep, .slice Am nm cm] q.arr #[.int .i64 q.client, .int .i64 q.num, .int .i64 0, .slice none 0 0] #[.slice none 0 0, .slice none 0 0, .int .i64 0, .slice none 0 0] #[.int .i64 0, .int .i64 0, .int .i64 0, .slice none 0 0] rfl rfl
  obtain ⟨w5, hw5⟩ : ∃ w5, (((((w.alloc (.cells #[.slice Ap np cp, .slice Ar nr cr, .int .i64 ep, .slice Am nm cm] 28)).alloc (.cells q.arr 46)).alloc (.cells #[.slice none 0 0, .slice none 0 0, .int .i64 0, .slice none 0 0] 28)).alloc (.cells #[.int .i64 0, .int .i64 0, .int .i64 0, .slice none 0 0] 49)).alloc (.cells #[.int .i64 q.client, .int .i64 q.num, .int .i64 0, .slice none 0 0] 49)) = w5 := ⟨_, rfl⟩
  rw [hw5] at S5
  have HB := Lib.hid hN
  clear hN
  have H := Lib.hid (And.intro h (And.intro hs (And.intro hq (And.intro hi (And.intro hfr (And.intro hn (And.intro hr (And.intro hmm (And.intro hR (And.intro hT (And.intro hokm hokp)))))))))))
  have k42 : rowAt w5 (w.heap.size + 1) 0 42 = some q.arr := by unfold rowAt; rw [S5.q]; exact qc
  have G5 := Lib.hid S5
  clear h hs hi hfr hn hr hmm hR hSr hT hokm hokp S5
  go_enter Tryd.func13, Tryd.ntmps13
  go_wp2_with fail
  clear hw5 qs qo qc
  refine (refGood09_any hq _).mono ?_
  rw [hg]
  rintro e w6 ⟨rfl, hb6⟩
  have S6 := G5.out.below hb6
  have k0 : rowAt w6 w.heap.size 0 4 = some #[.slice Ap np cp, .slice Ar nr cr, .int .i64 ep, .slice Am nm cm] := by unfold rowAt; rw [S6.s]; exact cut_all _ _ rfl
  have k1 : w6.cell? ⟨w.heap.size, 1, none⟩ = some (.slice Ar nr cr) := cell_of_row S6.s rfl
  have k2 : w6.cell? ⟨w.heap.size + 1, 0, none⟩ = some (.int .i64 q.client) := cell_of_row S6.q q0
  have k3 : w6.cell? ⟨w.heap.size + 1, 1, none⟩ = some (.int .i64 q.num) := cell_of_row S6.q q1
  have k4 : rowAt w6 (w.heap.size + 1) 2 40 = some q.op.arr := by unfold rowAt; rw [S6.q]; exact Rq.cutOp hq
  have G6 := Lib.hid S6
  clear S6 hb6 k42
  go_wp2_with fail
  refine (last10_any _ ps rs ep ms q.client _ (H.out.1.below G6.out.b)).mono ?_
  rintro e w7 ⟨⟨i', rfl, hi'⟩, hb7⟩
  obtain rfl := atR_unique H.out.2.2.2.1 hi'
  have S7 := G6.out.below hb7
  clear k0 k1 k2 k3 k4
  have k0 : rowAt w7 w.heap.size 0 4 = some #[.slice Ap np cp, .slice Ar nr cr, .int .i64 ep, .slice Am nm cm] := by unfold rowAt; rw [S7.s]; exact cut_all _ _ rfl
  have k1 : w7.cell? ⟨w.heap.size, 1, none⟩ = some (.slice Ar nr cr) := cell_of_row S7.s rfl
  have k2 : w7.cell? ⟨w.heap.size + 1, 0, none⟩ = some (.int .i64 q.client) := cell_of_row S7.q q0
  have k3 : w7.cell? ⟨w.heap.size + 1, 1, none⟩ = some (.int .i64 q.num) := cell_of_row S7.q q1
  have k4 : rowAt w7 (w.heap.size + 1) 2 40 = some q.op.arr := by unfold rowAt; rw [S7.q]; exact Rq.cutOp hq
  have G7 := Lib.hid S7
  clear S7 hb7 hi'
  rcases H.out.2.2.2.1 with ⟨hm1, -⟩ | ⟨k, hk, hik, -, -⟩
  subst hm1
  go_wp2_with fail
  go_quiet (fail)
  have Sq := G7.out.below (below_drewN (Below.refl w7.heap.size w7) nq)
  clear k0 k1 k2 k3 k4
  clear G7
  generalize w7.drewN nq = wq at Sq ⊢
  have G7 := Lib.hid Sq
  clear Sq nq w7
  obtain ⟨w7, rfl⟩ : ∃ x, x = wq := ⟨_, rfl⟩
  have k0 : rowAt w7 w.heap.size 0 4 = some #[.slice Ap np cp, .slice Ar nr cr, .int .i64 ep, .slice Am nm cm] := by unfold rowAt; rw [G7.out.s]; exact cut_all _ _ rfl
  have k1 : w7.cell? ⟨w.heap.size, 1, none⟩ = some (.slice Ar nr cr) := cell_of_row G7.out.s rfl
  have k2 : w7.cell? ⟨w.heap.size + 1, 0, none⟩ = some (.int .i64 q.client) := cell_of_row G7.out.q q0
  have k3 : w7.cell? ⟨w.heap.size + 1, 1, none⟩ = some (.int .i64 q.num) := cell_of_row G7.out.q q1
  have k4 : rowAt w7 (w.heap.size + 1) 2 40 = some q.op.arr := by unfold rowAt; rw [G7.out.q]; exact Rq.cutOp hq
  go_wp2_with fail
  go_quiet (fail)
  have Sq := G7.out.below (below_drewN (Below.refl w7.heap.size w7) nq)
  clear k0 k1 k2 k3 k4
  clear G7
  generalize w7.drewN nq = wq at Sq ⊢
  have G7 := Lib.hid Sq
  clear Sq nq w7
  obtain ⟨w7, rfl⟩ : ∃ x, x = wq := ⟨_, rfl⟩
  have k0 : rowAt w7 w.heap.size 0 4 = some #[.slice Ap np cp, .slice Ar nr cr, .int .i64 ep, .slice Am nm cm] := by unfold rowAt; rw [G7.out.s]; exact cut_all _ _ rfl
  have k1 : w7.cell? ⟨w.heap.size, 1, none⟩ = some (.slice Ar nr cr) := cell_of_row G7.out.s rfl
  have k2 : w7.cell? ⟨w.heap.size + 1, 0, none⟩ = some (.int .i64 q.client) := cell_of_row G7.out.q q0
  have k3 : w7.cell? ⟨w.heap.size + 1, 1, none⟩ = some (.int .i64 q.num) := cell_of_row G7.out.q q1
  have k4 : rowAt w7 (w.heap.size + 1) 2 40 = some q.op.arr := by unfold rowAt; rw [G7.out.q]; exact Rq.cutOp hq
  rotate_left
  subst hik
  have hnum := H.out.2.2.2.2.1 k rfl
  have hk' : k < nr := by omega
  have hk0 : (0 : Int) ≤ k := by omega
  have hk1 : (k : Int) < nr := by omega
  obtain ⟨b, off, rfl, hbb, hrow⟩ := H.out.2.2.2.2.2.2.2.2.1.mem (by omega)
  have hx0 := cell_of_rowAt (hrow k hk') 1 _ (Rp.at1 _)
  have hx7 := (cell_alike (o := off + k * 4 + 1) (G7.out.b.block _ hbb)).trans hx0
  clear hrow
  generalize (rs.getD k default).num = num at hnum hx0 hx7
  have hne : (num == q.num) = false := by rw [beq_eq_false_iff_ne]; omega
  have hng : decide (q.num < num) = false := decide_eq_false (by omega)
  go_wp2_with fail
  go_quiet (fail)
  have Sq := G7.out.below (below_drewN (Below.refl w7.heap.size w7) nq)
  clear k0 k1 k2 k3 k4 hx7
  clear G7
  generalize w7.drewN nq = wq at Sq ⊢
  have G7 := Lib.hid Sq
  clear Sq nq w7
  obtain ⟨w7, rfl⟩ : ∃ x, x = wq := ⟨_, rfl⟩
  have k0 : rowAt w7 w.heap.size 0 4 = some #[.slice Ap np cp, .slice (some ⟨b, off, none⟩) nr cr, .int .i64 ep, .slice Am nm cm] := by unfold rowAt; rw [G7.out.s]; exact cut_all _ _ rfl
  have k1 : w7.cell? ⟨w.heap.size, 1, none⟩ = some (.slice (some ⟨b, off, none⟩) nr cr) := cell_of_row G7.out.s rfl
  have k2 : w7.cell? ⟨w.heap.size + 1, 0, none⟩ = some (.int .i64 q.client) := cell_of_row G7.out.q q0
  have k3 : w7.cell? ⟨w.heap.size + 1, 1, none⟩ = some (.int .i64 q.num) := cell_of_row G7.out.q q1
  have k4 : rowAt w7 (w.heap.size + 1) 2 40 = some q.op.arr := by unfold rowAt; rw [G7.out.q]; exact Rq.cutOp hq
  have hx7 := (cell_alike (o := off + k * 4 + 1) (G7.out.b.block _ hbb)).trans hx0
  go_wp2_with fail
  go_quiet (fail)
  have Sq := G7.out.below (below_drewN (Below.refl w7.heap.size w7) nq)
  clear k0 k1 k2 k3 k4 hx7
  clear G7
  generalize w7.drewN nq = wq at Sq ⊢
  have G7 := Lib.hid Sq
  clear Sq nq w7
  obtain ⟨w7, rfl⟩ : ∃ x, x = wq := ⟨_, rfl⟩
  have k0 : rowAt w7 w.heap.size 0 4 = some #[.slice Ap np cp, .slice (some ⟨b, off, none⟩) nr cr, .int .i64 ep, .slice Am nm cm] := by unfold rowAt; rw [G7.out.s]; exact cut_all _ _ rfl
  have k1 : w7.cell? ⟨w.heap.size, 1, none⟩ = some (.slice (some ⟨b, off, none⟩) nr cr) := cell_of_row G7.out.s rfl
  have k2 : w7.cell? ⟨w.heap.size + 1, 0, none⟩ = some (.int .i64 q.client) := cell_of_row G7.out.q q0
  have k3 : w7.cell? ⟨w.heap.size + 1, 1, none⟩ = some (.int .i64 q.num) := cell_of_row G7.out.q q1
  have k4 : rowAt w7 (w.heap.size + 1) 2 40 = some q.op.arr := by unfold rowAt; rw [G7.out.q]; exact Rq.cutOp hq
  have hx7 := (cell_alike (o := off + k * 4 + 1) (G7.out.b.block _ hbb)).trans hx0
  clear hx7 hnum hne hng
  all_goals
    have hkind : 1 ≤ q.op.kind ∧ q.op.kind ≤ 7 := by have := hg; unfold rqGood at this; rw [decide_eq_true_eq] at this; exact ⟨this.2.2.2.2.1, this.2.2.2.2.2.1⟩
    have a2 : w7.cell? ⟨w.heap.size + 1 + 1 + 1 + 1, 2, none⟩ = some (.int .i64 0) := cell_of_row G7.out.a rfl
    go_wp2_with fail
    refine (rdoes_any _ ps rs ep ms q.op (fun k => N k ∨ w.heap.size ≤ k) w7 (fun w'' m => HB.out w'' ((Mv.of_below (fp := N) G7.out.b).trans m (fun i hi c => c.elim id (fun c => by omega)))) H.out.2.1 hq.op hkind.1 hkind.2 H.out.2.2.2.2.2.1 ⟨H.out.2.2.2.2.2.2.2.1.1, H.out.2.2.2.2.2.2.2.1.2.1, H.out.2.2.2.2.2.2.2.1.2.2.below G7.out.b⟩).mono ?_
    rintro e w8 ⟨v', code, Av, nv, cv, ps', ep', ms', out, rfl, hK, hso, hdo, hb8⟩
    obtain ⟨hst, hts⟩ := hK w8 (Mv.refl _ _)
    have hof := outs_fit hkind.1 hkind.2 H.out.2.2.2.2.2.2.2.2.2.2.2 hq.op (by have := H.out.2.2.2.2.2.1; omega) H.out.2.2.2.2.2.2.2.1.1 H.out.2.2.2.2.2.2.2.2.2.2.1 H.out.2.2.2.2.2.2.2.1.2.1 hdo
    obtain ⟨Aq, cq, Ar', cr', An, cn, hv8, -⟩ := hst.ex
    obtain ⟨nq, hnq⟩ : ∃ n, ps'.length = n := ⟨_, rfl⟩
    obtain ⟨nn, hnn⟩ : ∃ n, ms'.length = n := ⟨_, rfl⟩
    have hR8 : RS w8 Ar' rs.length rs ∧ SlOk Ar' rs.length := by
      obtain ⟨_, _, A2, _, _, _, hv, _, _, h3, h4, _⟩ := hst.ex
      have := hv8.symm.trans hv
      cases this
      exact ⟨h3, h4⟩
    have hnr : rs.length = nr := H.out.2.2.2.2.2.2.2.2.1.len
    rw [hnr] at hR8
    rw [hnq, hnn, hnr] at hv8
    subst hv8
    obtain ⟨hR8, hSr8⟩ := hR8
    have S8 := G7.out.below hb8
    obtain ⟨ps8, S9⟩ := S8.putS (sa' := #[.slice Aq nq cq, .slice Ar' nr cr', .int .i64 ep', .slice An nn cn]) rfl rfl (st_ones _ _ _ _ _ _ _ _ _ _)
    have c92 : (w8.setRow w.heap.size #[.slice Aq nq cq, .slice Ar' nr cr', .int .i64 ep', .slice An nn cn]).cell? ⟨w.heap.size + 1 + 1 + 1 + 1, 2, none⟩ = some (.int .i64 0) := cell_of_row S9.a rfl
    have f92 : (w8.setRow w.heap.size #[.slice Aq nq cq, .slice Ar' nr cr', .int .i64 ep', .slice An nn cn]).frozen? ⟨w.heap.size + 1 + 1 + 1 + 1, 2, none⟩ = false := by simp [World.frozen?, S9.a]
    have S10 : Apf w #[.slice Aq nq cq, .slice Ar' nr cr', .int .i64 ep', .slice An nn cn] q.arr #[.int .i64 q.client, .int .i64 q.num, .int .i64 code, .slice none 0 0] ((w8.setRow w.heap.size #[.slice Aq nq cq, .slice Ar' nr cr', .int .i64 ep', .slice An nn cn]).setCell ⟨w.heap.size + 1 + 1 + 1 + 1, 2, none⟩ (.int .i64 code)) := S9.setA 2 _
    have c103 : ((w8.setRow w.heap.size #[.slice Aq nq cq, .slice Ar' nr cr', .int .i64 ep', .slice An nn cn]).setCell ⟨w.heap.size + 1 + 1 + 1 + 1, 2, none⟩ (.int .i64 code)).cell? ⟨w.heap.size + 1 + 1 + 1 + 1, 3, none⟩ = some (.slice none 0 0) := cell_of_row S10.a rfl
    have f103 : ((w8.setRow w.heap.size #[.slice Aq nq cq, .slice Ar' nr cr', .int .i64 ep', .slice An nn cn]).setCell ⟨w.heap.size + 1 + 1 + 1 + 1, 2, none⟩ (.int .i64 code)).frozen? ⟨w.heap.size + 1 + 1 + 1 + 1, 3, none⟩ = false := by simp [World.frozen?, S10.a]
    have S11 : Apf w #[.slice Aq nq cq, .slice Ar' nr cr', .int .i64 ep', .slice An nn cn] q.arr #[.int .i64 q.client, .int .i64 q.num, .int .i64 code, .slice Av nv cv] (((w8.setRow w.heap.size #[.slice Aq nq cq, .slice Ar' nr cr', .int .i64 ep', .slice An nn cn]).setCell ⟨w.heap.size + 1 + 1 + 1 + 1, 2, none⟩ (.int .i64 code)).setCell ⟨w.heap.size + 1 + 1 + 1 + 1, 3, none⟩ (.slice Av nv cv)) := S10.setA 3 _
    obtain ⟨w11, hw11⟩ : ∃ x, ((w8.setRow w.heap.size #[.slice Aq nq cq, .slice Ar' nr cr', .int .i64 ep', .slice An nn cn]).setCell ⟨w.heap.size + 1 + 1 + 1 + 1, 2, none⟩ (.int .i64 code)).setCell ⟨w.heap.size + 1 + 1 + 1 + 1, 3, none⟩ (.slice Av nv cv) = x := ⟨_, rfl⟩
    have mv : Mv (fun k => k = w.heap.size ∨ k = w.heap.size + 1 + 1 + 1 + 1) w8 w11 := by
      rw [← hw11]
      exact ((Mv.setRow (fp := fun k => k = w.heap.size ∨ k = w.heap.size + 1 + 1 + 1 + 1) _ _ _ (.inl rfl)).trans (Mv.setCell (fp := fun k => k = w.heap.size ∨ k = w.heap.size + 1 + 1 + 1 + 1) _ _ _ (.inr rfl)) (fun _ _ c => c)).trans (Mv.setCell (fp := fun k => k = w.heap.size ∨ k = w.heap.size + 1 + 1 + 1 + 1) _ _ _ (.inr rfl)) (fun _ _ c => c)
    rw [hw11] at S11
    have k11 : w11.cell? ⟨w.heap.size, 1, none⟩ = some (.slice Ar' nr cr') := cell_of_row S11.s rfl
    have hnv := hts.len
    subst hnv
    have hax : (⟨q.client, q.num, code, Av, cv, out⟩ : Rp).ok := ⟨hq.c, hq.n, hts.small, hof.1⟩
    obtain ⟨x, hxe⟩ : ∃ x, (⟨q.client, q.num, code, Av, cv, out⟩ : Rp) = x := ⟨_, rfl⟩
    have hxa : x.arr = #[.int .i64 q.client, .int .i64 q.num, .int .i64 code, .slice Av out.length cv] := by rw [← hxe]; rfl
    have hxc : x.client = q.client := by rw [← hxe]
    have G8 := Lib.hid (And.intro hK (And.intro hso (And.intro hdo (And.intro hR8 (And.intro hSr8 (And.intro mv (And.intro S11 (And.intro (show x.ok from hxe ▸ hax) (And.intro hxa (And.intro hxc (And.intro hxe (And.intro hnq (And.intro hnn (And.intro hb8 (And.intro hof.2 hst)))))))))))))))
    clear hK hst hts hso hdo hof hR8 hSr8 S8 S9 S10 S11 mv hax hxa hxc hxe hnq hnn hb8
    go_wp2_with fail
    clear ps8 c92 f92 c103 f103 hw11 k11 a2
    clear k0 k1 k2 k3 k4
    go_loopw [8, 9, 11, 75] (fun t8 t9 t11 t75 wr => ∃ k : Nat, k ≤ nr ∧ t75 = .int .i64 k ∧ ∃ A5 m c5 L d, t8 = .slice A5 m c5 ∧ t9 = .bool d ∧ (L, d) = (rs.take k).foldl (withSR x) ([], false) ∧ wr.ownsRow w11.heap.size 49 4 (.slice A5 m c5) m (flatC Rp.cells L) ∧ m = L.length ∧ m ≤ 2 * k ∧ Below w11.heap.size w11 wr) (fun _ _ _ t _ => nr - (intOf t).toNat)
    case atStart => exact ⟨0, by omega, rfl, none, 0, 0, [], false, rfl, rfl, rfl, World.ownsRow_nil _ _ _ _, rfl, by omega, Below.refl _ _⟩
    case round =>
      obtain ⟨k, hk, rfl, A5, m, c5, L, d, rfl, rfl, hfold, hown, hm, hmk, hb⟩ := hrel
      have hk0 : (0 : Int) ≤ k := by omega
      obtain ⟨hK, hso, hdo, hR8, hSr8, mv, S11, hax, hxa, hxc, -⟩ := G8.out
      have hx0 : x.arr[0]? = some (.int .i64 q.client) := by rw [x.at0, hxc]
      have hgx : ∀ w', Below w11.heap.size w11 w' → w'.heap[w.heap.size + 4]? = some (.cells x.arr 49 (0, 0)) := fun w' hb' => by rw [hxa]; exact (S11.below hb').a
      have hRR : ∀ w', Below w11.heap.size w11 w' → RS w' Ar' nr rs := fun w' hb' => by
        have hs1 := (hK w' ((mv.mono (fun i hi c => by have := G7.out.lt; rcases c with c | c <;> exact ⟨.inr (by omega), by omega⟩)).trans (Mv.of_below (fp := fun _ => False) hb') (fun _ _ c => c.elim))).1
        obtain ⟨_, _, A2, _, _, _, hv, _, _, h3, h4, _⟩ := hs1.ex
        have hnr : rs.length = nr := H.out.2.2.2.2.2.2.2.2.1.len
        rw [hnr] at hv h3
        simp only [Value.agg.injEq] at hv
        have h5 := congrArg (fun a : Array Value => a[1]?) hv
        simp at h5
        obtain ⟨rfl, -⟩ := h5
        exact h3
      by_cases hlt : k < nr
      · have hk1 : (k : Int) < nr := by omega
        obtain ⟨b2, off2, rfl, hbb2, hrow2⟩ := (hRR wr hb).mem (by omega)
        have hr := hrow2 k hlt
        have hok := (hRR wr hb).okAt hlt
        have htk := take_snoc (l := rs) (k := k) (by rw [(hRR wr hb).len]; exact hlt)
        obtain ⟨y, hy⟩ : ∃ y, rs.getD k default = y := ⟨_, rfl⟩
        rw [hy] at hr hok htk
        have hfk : (rs.take (k + 1)).foldl (withSR x) ([], false) = withSR x (L, d) y := by rw [htk, List.foldl_append, ← hfold]; rfl
        have sy : SizeIs y.arr 4 := Rp.sz hok
        have oy := y.ones
        have ay := y.at0
        obtain ⟨w15, hw15⟩ : ∃ w15, wr.alloc (.cells y.arr 49) = w15 := ⟨_, rfl⟩
        have hb15 : Below wr.heap.size wr w15 := by rw [← hw15]; exact (Below.refl _ _).alloc (Nat.le_refl _) _
        have hB15 := hb.trans (hb15.mono hb.size)
        have hg15 : w15.heap[wr.heap.size]? = some (.cells y.arr 49 (0, 0)) := by rw [← hw15]; exact heap_alloc_new wr _
        have hl15 : wr.heap.size < w15.heap.size := (Array.getElem?_eq_some_iff.1 hg15).1
        have hl11 := S11.lt
        have hown15 := own_mv (fp := fun _ => False) hown (Mv.of_below hb15) (fun _ _ c => c)
        have K8 : ∀ w8, Mv (fun k => (Value.slice A5 m c5).ownBlock = some k) w15 w8 → w8.heap[wr.heap.size]? = some (.cells y.arr 49 (0, 0)) ∧ w8.heap[w.heap.size + 4]? = some (.cells x.arr 49 (0, 0)) := fun w8 hm8 =>
          ⟨(hm8.block _ hl15 (fun e => by have := (own_lt hown e).2; omega)).trans hg15, (hm8.block _ (by have := hB15.size; omega) (fun e => by have := (own_lt hown e).1; omega)).trans (hgx w15 hB15)⟩
        have R : ∀ w8 : World, w8.heap[wr.heap.size]? = some (.cells y.arr 49 (0, 0)) ∧ w8.heap[w.heap.size + 4]? = some (.cells x.arr 49 (0, 0)) → rowAt w8 wr.heap.size 0 4 = some y.arr ∧ rowAt w8 (w.heap.size + 1 + 1 + 1 + 1) 0 4 = some x.arr ∧ w8.cell? ⟨wr.heap.size, 0, none⟩ = some (.int .i64 y.client) ∧ w8.cell? ⟨w.heap.size + 1 + 1 + 1 + 1, 0, none⟩ = some (.int .i64 q.client) := fun w8 hh =>
          ⟨by unfold rowAt; rw [hh.1]; exact Rp.cut hok, by unfold rowAt; rw [hh.2]; exact Rp.cut hax, cell_of_row hh.1 ay, cell_of_row hh.2 hx0⟩
        obtain ⟨r1, r2, r3, r4⟩ := R w15 ⟨hg15, hgx w15 hB15⟩
        have hbx := fun w => bs_M1R hax w
        have hby := fun w => bs_M1R hok w
        have E := Lib.hid (And.intro hfk (And.intro hown15 (And.intro hB15 (And.intro K8 (And.intro R (And.intro hm (And.intro hmk (And.intro hok (And.intro hax hxc)))))))))
        clear hfk htk hy hown hown15 hb hb15 hB15 hg15 hl15 hl11 K8 R hm hrow2 hfold hok hbb2 hK hso hdo hR8 hSr8 mv S11 hax hxa hxc hgx hRR hx0
        cases d with
        | true =>
          cases he : y.client == q.client with
          | true =>
            have F := Lib.hid (And.intro E.out.2.1 E.out.2.2.1)
            have hstep : withSR x (L, true) y = (L, true) := by
              have hxc := E.out.2.2.2.2.2.2.2.2.2
              unfold withSR withAR
              rw [hxc]
              simp [he]
            have HS := Lib.hid hstep
            clear hstep
            go_wp2_with fail
            go_roundw
            case rel =>
              refine ⟨k + 1, by omega, by go_num, A5, m, c5, L, true, rfl, rfl, ?_, F.out.1, ?_, by have := E.out.2.2.2.2.2.2.1; omega, F.out.2⟩
              · rw [E.out.1, HS.out]
              · have := E.out.2.2.2.2.2.1; simp [this]
            case measure => simp [intOf]; omega
          | false =>
            obtain ⟨v9, w19, hrun9, hown9, hB9, -⟩ := pushR 23 E.out.2.1 E.out.2.2.2.2.2.2.2.1 (by have := E.out.2.2.2.2.2.2.1; omega) E.out.2.2.1.size
            obtain ⟨A9, c9, rfl, -, -⟩ := own_shape hown9
            have F := Lib.hid (And.intro hown9 (E.out.2.2.1.trans hB9))
            have hstep : withSR x (L, true) y = ((L ++ [y]), true) := by
              have hxc := E.out.2.2.2.2.2.2.2.2.2
              unfold withSR withAR
              rw [hxc]
              simp [he]
            have HS := Lib.hid hstep
            clear hstep hown9 hB9
            go_wp2_with fail
            go_roundw
            case rel =>
              refine ⟨k + 1, by omega, by go_num, A9, m + 1, c9, (L ++ [y]), true, rfl, rfl, ?_, F.out.1, ?_, by have := E.out.2.2.2.2.2.2.1; omega, F.out.2⟩
              · rw [E.out.1, HS.out]
              · have := E.out.2.2.2.2.2.1; simp [this]
            case measure => simp [intOf]; omega
        | false =>
          by_cases hgt : q.client ≤ y.client
          · have hg : decide (q.client ≤ y.client) = true := decide_eq_true hgt
            cases he : y.client == q.client with
            | true =>
              obtain ⟨v8, w18, hrun8, hown8, hB8, hm8⟩ := pushR 23 E.out.2.1 E.out.2.2.2.2.2.2.2.2.1 (by have := E.out.2.2.2.2.2.2.1; omega) E.out.2.2.1.size
              obtain ⟨A8, c8, rfl, -, -⟩ := own_shape hown8
              obtain ⟨p1, p2, p3, p4⟩ := E.out.2.2.2.2.1 _ (E.out.2.2.2.1 _ hm8)
              have F := Lib.hid (And.intro hown8 (E.out.2.2.1.trans hB8))
              have hstep : withSR x (L, false) y = ((L ++ [x]), true) := by
                have hxc := E.out.2.2.2.2.2.2.2.2.2
                unfold withSR withAR
                rw [hxc]
                simp [he, hg]
              have HS := Lib.hid hstep
              clear hstep hown8 hB8 hm8
              go_wp2_with fail
              go_roundw
              case rel =>
                refine ⟨k + 1, by omega, by go_num, A8, m + 1, c8, (L ++ [x]), true, rfl, rfl, ?_, F.out.1, ?_, by have := E.out.2.2.2.2.2.2.1; omega, F.out.2⟩
                · rw [E.out.1, HS.out]
                · have := E.out.2.2.2.2.2.1; simp [this]
              case measure => simp [intOf]; omega
            | false =>
              obtain ⟨v8, w18, hrun8, hown8, hB8, hm8⟩ := pushR 23 E.out.2.1 E.out.2.2.2.2.2.2.2.2.1 (by have := E.out.2.2.2.2.2.2.1; omega) E.out.2.2.1.size
              obtain ⟨A8, c8, rfl, -, -⟩ := own_shape hown8
              obtain ⟨p1, p2, p3, p4⟩ := E.out.2.2.2.2.1 _ (E.out.2.2.2.1 _ hm8)
              obtain ⟨v9, w19, hrun9, hown9, hB9, -⟩ := pushR 23 hown8 E.out.2.2.2.2.2.2.2.1 (by have := E.out.2.2.2.2.2.2.1; omega) (Nat.le_trans E.out.2.2.1.size hB8.size)
              obtain ⟨A9, c9, rfl, -, -⟩ := own_shape hown9
              have F := Lib.hid (And.intro hown9 ((E.out.2.2.1.trans hB8).trans hB9))
              have hstep : withSR x (L, false) y = (((L ++ [x]) ++ [y]), true) := by
                have hxc := E.out.2.2.2.2.2.2.2.2.2
                unfold withSR withAR
                rw [hxc]
                simp [he, hg]
              have HS := Lib.hid hstep
              clear hstep hown8 hB8 hm8 hown9 hB9
              go_wp2_with fail
              go_roundw
              case rel =>
                refine ⟨k + 1, by omega, by go_num, A9, m + 1 + 1, c9, ((L ++ [x]) ++ [y]), true, rfl, rfl, ?_, F.out.1, ?_, by have := E.out.2.2.2.2.2.2.1; omega, F.out.2⟩
                · rw [E.out.1, HS.out]
                · have := E.out.2.2.2.2.2.1; simp [this]
              case measure => simp [intOf]; omega
          · have hg : decide (q.client ≤ y.client) = false := decide_eq_false hgt
            cases he : y.client == q.client with
            | true =>
              exact absurd (beq_iff_eq.1 he) (by omega)
            | false =>
              obtain ⟨v9, w19, hrun9, hown9, hB9, -⟩ := pushR 23 E.out.2.1 E.out.2.2.2.2.2.2.2.1 (by have := E.out.2.2.2.2.2.2.1; omega) E.out.2.2.1.size
              obtain ⟨A9, c9, rfl, -, -⟩ := own_shape hown9
              have F := Lib.hid (And.intro hown9 (E.out.2.2.1.trans hB9))
              have hstep : withSR x (L, false) y = ((L ++ [y]), false) := by
                have hxc := E.out.2.2.2.2.2.2.2.2.2
                unfold withSR withAR
                rw [hxc]
                simp [he, hg]
              have HS := Lib.hid hstep
              clear hstep hown9 hB9
              go_wp2_with fail
              go_roundw
              case rel =>
                refine ⟨k + 1, by omega, by go_num, A9, m + 1, c9, (L ++ [y]), false, rfl, rfl, ?_, F.out.1, ?_, by have := E.out.2.2.2.2.2.2.1; omega, F.out.2⟩
                · rw [E.out.1, HS.out]
                · have := E.out.2.2.2.2.2.1; simp [this]
              case measure => simp [intOf]; omega
      · have hkn : k = nr := by omega
        have hnr : rs.length = nr := H.out.2.2.2.2.2.2.2.2.1.len
        have hfull : rs.take k = rs := List.take_of_length_le (by omega)
        rw [hfull] at hfold
        have hl11 := S11.lt
        have S12 := S11.below hb
        have hbx := fun w => bs_M1R hax w
        have hmle : m ≤ 20000 := by omega
        have r4 : rowAt wr (w.heap.size + 1 + 1 + 1 + 1) 0 4 = some x.arr := by unfold rowAt; rw [hgx wr hb]; exact Rp.cut hax
        have hrow : ∃ A9 n9 c9 w9, wr.heap.size ≤ w9.heap.size ∧ Below w11.heap.size w11 w9 ∧ w9.ownsRow w11.heap.size 49 4 (.slice A9 n9 c9) n9 (flatC Rp.cells (withR rs x)) ∧ (d = true → A9 = A5 ∧ n9 = m ∧ c9 = c5 ∧ w9 = wr) ∧ (d = false → (apRow #[23, 23] 23 #[.slice A5 m c5, .slice (some ⟨wr.heap.size, 0, none⟩) 1 1]).run Tryd.prog (wr.alloc (.cells x.arr 49)) = .ok (.slice A9 n9 c9) w9) := by
          cases d with
          | true =>
            have e : withR rs x = L := by unfold withR; rw [← hfold]; rfl
            exact ⟨A5, m, c5, wr, Nat.le_refl _, hb, by rw [e]; exact hown, fun _ => ⟨rfl, rfl, rfl, rfl⟩, fun c => by cases c⟩
          | false =>
            have e : withR rs x = L ++ [x] := by unfold withR; rw [← hfold]; rfl
            obtain ⟨v8, w18, hrun8, hown8, hB8, hm8⟩ := pushR 23 hown hax (by omega) hb.size
            obtain ⟨A8, c8, rfl, -, -⟩ := own_shape hown8
            exact ⟨A8, m + 1, c8, w18, hm8.size, hb.trans hB8, by rw [e]; exact hown8, (fun c => by cases c), fun _ => hrun8⟩
        obtain ⟨A9, n9, c9, w9, hs9, hB9, hown9, hdt, hdf⟩ := hrow
        have S13 := S11.below hB9
        have S14 : Apf w #[.slice Aq nq cq, .slice A9 n9 c9, .int .i64 ep', .slice An nn cn] q.arr #[.int .i64 q.client, .int .i64 q.num, .int .i64 code, .slice Av out.length cv] (w9.setCell ⟨w.heap.size, 1, none⟩ (.slice A9 n9 c9)) := S13.setS 1 _
        have c13 : w9.cell? ⟨w.heap.size, 1, none⟩ = some (.slice Ar' nr cr') := cell_of_row S13.s rfl
        have f13 : w9.frozen? ⟨w.heap.size, 1, none⟩ = false := by simp [World.frozen?, S13.s]
        obtain ⟨w14, hw14⟩ : ∃ x, w9.setCell ⟨w.heap.size, 1, none⟩ (.slice A9 n9 c9) = x := ⟨_, rfl⟩
        rw [hw14] at S14
        have S14d := S14.below (Below.refl _ _).drew
        obtain ⟨p1, p3, S15, S16, p5, p4, mz⟩ := ret2 S14d (out := #[.slice Aq nq cq, .slice A9 n9 c9, .int .i64 ep', .slice An nn cn]) rfl (st_ones _ _ _ _ _ _ _ _ _ _) rfl (rp_ones4 _ _ _ _ _ _)
        have o14 : rowAt w14 w.heap.size 0 4 = some #[.slice Aq nq cq, .slice A9 n9 c9, .int .i64 ep', .slice An nn cn] := by unfold rowAt; rw [S14.s]; exact cut_all _ _ rfl
        have a14 : rowAt w14 (w.heap.size + 1 + 1 + 1 + 1) 0 4 = some #[.int .i64 q.client, .int .i64 q.num, .int .i64 code, .slice Av out.length cv] := by unfold rowAt; rw [S14.a]; exact cut_all _ _ rfl
        have a15 : rowAt (w14.drew.setRow (w.heap.size + 1 + 1) #[.slice Aq nq cq, .slice A9 n9 c9, .int .i64 ep', .slice An nn cn]) (w.heap.size + 1 + 1 + 1 + 1) 0 4 = some #[.int .i64 q.client, .int .i64 q.num, .int .i64 code, .slice Av out.length cv] := by unfold rowAt; rw [S15.a]; exact cut_all _ _ rfl
        obtain ⟨wf, hwf⟩ : ∃ x, (w14.drew.setRow (w.heap.size + 1 + 1) #[.slice Aq nq cq, .slice A9 n9 c9, .int .i64 ep', .slice An nn cn]).setRow (w.heap.size + 1 + 1 + 1) #[.int .i64 q.client, .int .i64 q.num, .int .i64 code, .slice Av out.length cv] = x := ⟨_, rfl⟩
        rw [hwf] at S16 p3 p4 p5 mz
        have mvf : Mv (fun k => w.heap.size ≤ k ∧ k ≤ w.heap.size + 4) w9 wf := by
          have m1 : Mv (fun k => w.heap.size ≤ k ∧ k ≤ w.heap.size + 4) w9 w14 := by rw [← hw14]; exact Mv.setCell (fp := fun k => w.heap.size ≤ k ∧ k ≤ w.heap.size + 4) _ _ _ ⟨Nat.le_refl _, by simp⟩
          exact (m1.trans (Mv.of_below (fp := fun _ => False) (Below.refl w14.heap.size w14).drew) (fun _ _ c => c.elim)).trans mz (fun i _ c => by rcases c with c | c <;> omega)
        have hfin : ApQ N ps rs ep ms q w (.returned (.tuple #[.agg #[.slice Aq nq cq, .slice A9 n9 c9, .int .i64 ep', .slice An nn cn], .agg #[.int .i64 q.client, .int .i64 q.num, .int .i64 code, .slice Av out.length cv]])) wf := by
          have mvw : Mv (fun k => w.heap.size ≤ k ∧ k < w7.heap.size) w8 wf := by
            have l7 := G7.out.lt
            have m1 : Mv (fun k => w.heap.size ≤ k ∧ k < w7.heap.size) w8 w11 := mv.mono (fun i _ c => by rcases c with c | c <;> omega)
            have m2 : Mv (fun k => w.heap.size ≤ k ∧ k < w7.heap.size) w8 w9 := m1.trans (Mv.of_below (fp := fun _ => False) hB9) (fun _ _ c => c.elim)
            exact m2.trans mvf (fun i _ c => by omega)
          refine ⟨_, code, Av, out.length, cv, ps', withR rs x, ep', ms', out, rfl, fun w'' mm => ?_, hso, hdo, by rw [G8.out.2.2.2.2.2.2.2.2.2.2.1], S16.b⟩
          have hw'' := hK w'' (mvw.mono (fun i _ c => ⟨.inr c.1, c.2⟩) |>.trans mm (fun i _ c => ⟨.inl c.1, by have := c.2; have := G7.out.lt; omega⟩))
          have own10 : wf.ownsRow w11.heap.size 49 4 (.slice A9 n9 c9) n9 (flatC Rp.cells (withR rs x)) := own_mv hown9 mvf (fun g hg c => by have := (own_lt hown9 hg).1; omega)
          have own11 := nb_own mm own10 (by omega)
          have hok9 : OkAllR (withR rs x) := fun r hr => by
            rcases withR_mem hr with rfl | hr
            · exact hax
            · exact hR8.ok r hr
          have hlen := withR_len (rs := rs) (a := x)
          have hn9 : (withR rs x).length = n9 := by
            have h1 := hown9.1
            rw [flatC_length hok9.len] at h1
            omega
          obtain ⟨A', c', hv, R9⟩ := RS_of_own own11 hok9 (by omega)
          cases hv
          obtain ⟨_, _, hv, so, -⟩ := own_shape own11
          cases hv
          refine ⟨hw''.1.reps (Below.refl _ _) R9 so (fun r hr => ?_), hw''.2⟩
          rcases withR_mem hr with rfl | hr
          · rw [← G8.out.2.2.2.2.2.2.2.2.2.2.1]; exact ⟨hw''.2, hso⟩
          · obtain ⟨_, _, _, _, _, _, _, _, _, _, _, _, _, h7⟩ := hw''.1.ex
            exact h7 r hr
        have HF := Lib.hid (And.intro hfin (And.intro p4 p5))
        clear hfin mvf mz S16 S15 S14 S14d S13 S12 S11 hown9 hB9 hs9 hown hb hm hfold hfull hK hso hdo hR8 hSr8 mv hgx hRR hax hx0 hxc hl11 hmle hnr hxa
        skip
        cases d with
        | true =>
          obtain ⟨rfl, rfl, rfl, rfl⟩ := hdt rfl
          clear hdf hdt hbx r4
          go_wp2_with fail
          go_region
          go_wp2_with fail
          refine bodyPost_ret (v := .tuple #[.agg #[.slice Aq nq cq, .slice A9 n9 c9, .int .i64 ep', .slice An nn cn], .agg #[.int .i64 q.client, .int .i64 q.num, .int .i64 code, .slice Av out.length cv]]) (by rw [results_cc Tryd.results13]; simp [go_sem, HF.out.2.1, HF.out.2.2]) rfl ?_
          exact HF.out.1
        | false =>
          have hrun9 := hdf rfl
          clear hdf hdt
          go_wp2_with fail
          go_region
          go_wp2_with fail
          refine bodyPost_ret (v := .tuple #[.agg #[.slice Aq nq cq, .slice A9 n9 c9, .int .i64 ep', .slice An nn cn], .agg #[.int .i64 q.client, .int .i64 q.num, .int .i64 code, .slice Av out.length cv]]) (by rw [results_cc Tryd.results13]; simp [go_sem, HF.out.2.1, HF.out.2.2]) rfl ?_
          exact HF.out.1
end Go.Proofs.YtfnfgnhbnffagaaDoor

/-
The plain law: what is executed one behind the other, and seen so, is borne out by its log, and linear.
-/
namespace Go.Proofs.YtfnfgnhbnffagaaDoor
open Go.RowKit
set_option linter.unusedVariables false
set_option linter.unusedSimpArgs false
set_option maxRecDepth 100000
/-- behind k requests: the document's registry (ps, rk, ep, ms), the program's, the events -/
structure RunS (s0 : Reg) (rs : List Rp) (qs : List Rq) (k : Nat) (ps : List Pr) (rk : List Rp) (ep : Int) (ms : List Mb) (es : List Ev) : Prop where
  hp : (logK s0 qs k).1.ps = ps
  he : (logK s0 qs k).1.ep = ep
  hm : (logK s0 qs k).1.ms = ms
  srt : SrtP ps
  rk : ∀ d : Rd, (∀ j, j < k → (qs.getD j default).client ≠ d.1) → (d ∈ rk.map Rp.d ↔ d ∈ rs.map Rp.d)
  ds : ∀ d ∈ (logK s0 qs k).1.ds, (∀ j, j < k → (qs.getD j default).client ≠ d.1) → d ∈ rs.map Rp.d
  wf : ∀ d ∈ (logK s0 qs k).1.ds, (Lit.int .i64 d.1).wf = true
  len : es.length = k
  ev : ∀ i, i < k → (es.getD i default).q = qs.getD i default ∧ (es.getD i default).called = 2 * (i : Int) ∧ (es.getD i default).done = 2 * (i : Int) + 1 ∧ (es.getD i default).r.d = (applyP (logK s0 qs i).1 (qs.getD i default)).2 ∧ freshP (logK s0 qs i).1 (qs.getD i default) = true
  dif : ∀ i j, i < j → j < k → (qs.getD i default).client ≠ (qs.getD j default).client
  fit : Fits k (logK s0 qs k).1
theorem RunS.start {rs : List Rp} {ps : List Pr} {ep : Int} {ms : List Mb} (qs : List Rq) (hs : SrtP ps) (hok : ∀ r ∈ rs, r.ok) (hf : Fits 0 ⟨ps, rs.map Rp.d, ep, ms⟩) : RunS ⟨ps, rs.map Rp.d, ep, ms⟩ rs qs 0 ps rs ep ms [] where
  hp := rfl
  he := rfl
  hm := rfl
  srt := hs
  rk := fun d _ => Iff.rfl
  ds := fun d hd _ => hd
  wf := fun d hd => by
    obtain ⟨r, hr, rfl⟩ := List.mem_map.1 hd
    exact (hok r hr).c
  len := rfl
  ev := fun i hi => by omega
  dif := fun i j _ hj => by omega
  fit := hf
theorem wf_eq {a b : Int} (ha : (Lit.int .i64 a).wf = true) (hb : (Lit.int .i64 b).wf = true) (h : (wrap64 (a - b) == 0) = true) : a = b := by
  have h1 := wf_i64_bounds ha
  have h2 := wf_i64_bounds hb
  have h3 := beq_iff_eq.1 h
  unfold wrap64 at h3
  omega
/-- each client's reply stands once -/
def Once (rs : List Rp) : Prop := ∀ a ∈ rs, ∀ b ∈ rs, a.client = b.client → a = b
theorem once_of {rs : List Rp} (h : ∀ i, i + 1 < rs.length → (rs.getD i default).client < (rs.getD (i + 1) default).client) : Once rs := by
  have hlt : ∀ d i, i + d + 1 < rs.length → (rs.getD i default).client < (rs.getD (i + d + 1) default).client := by
    intro d
    induction d with
    | zero => intro i hi; exact h i hi
    | succ d ih => intro i hi; have h1 := ih i (by omega); have h2 := h (i + d + 1) (by omega); exact Int.lt_trans h1 h2
  intro a ha b hb hab
  obtain ⟨i, hi, rfl⟩ := List.mem_iff_getElem.1 ha
  obtain ⟨j, hj, rfl⟩ := List.mem_iff_getElem.1 hb
  have e : ∀ i (hi : i < rs.length), rs.getD i default = rs[i] := fun i hi => by rw [List.getD_eq_getElem?_getD, List.getElem?_eq_getElem hi]; rfl
  rcases Nat.lt_trichotomy i j with c | c | c
  · have := hlt (j - i - 1) i (by omega)
    rw [show i + (j - i - 1) + 1 = j by omega, e i hi, e j hj] at this
    omega
  · subst c; rfl
  · have := hlt (i - j - 1) j (by omega)
    rw [show j + (i - j - 1) + 1 = i by omega, e i hi, e j hj] at this
    omega
theorem apply_fresh {s : Reg} {q : Rq} (h : freshP s q = true) : (applyP s q).2 = (q.client, q.num, (doesP s.ps s.ep s.ms q.op).1, (doesP s.ps s.ep s.ms q.op).2.1) ∧ (applyP s q).1.ps = (doesP s.ps s.ep s.ms q.op).2.2.1 ∧ (applyP s q).1.ep = (doesP s.ps s.ep s.ms q.op).2.2.2.1 ∧ (applyP s q).1.ms = (doesP s.ps s.ep s.ms q.op).2.2.2.2 ∧
    ∀ d ∈ (applyP s q).1.ds, d ∈ s.ds ∨ d = (applyP s q).2 := by
  unfold freshP at h
  rw [Bool.and_eq_true, Bool.or_eq_true, decide_eq_true_eq] at h
  obtain ⟨hg, hl⟩ := h
  unfold applyP
  rw [if_neg (by rw [hg]; decide)]
  simp only
  by_cases hb : lastB (s.ds.map Rd.p) q.client = true
  · rw [if_pos hb]
    have hn : ((s.ds.map Rd.p).getD (lastI (s.ds.map Rd.p) q.client) default).num < q.num := by
      rcases hl with hl | hl
      · rw [hb] at hl; cases hl
      · exact hl
    rw [if_neg (by omega), if_neg (by omega)]
    refine ⟨rfl, rfl, rfl, rfl, fun d hd => ?_⟩
    rcases List.mem_or_eq_of_mem_set hd with h | h
    · exact .inl h
    · exact .inr h
  · rw [if_neg hb]
    refine ⟨rfl, rfl, rfl, rfl, fun d hd => ?_⟩
    rcases List.mem_append.1 hd with h | h
    · exact .inl (List.mem_of_mem_take h)
    · rcases List.mem_cons.1 h with h | h
      · exact .inr h
      · exact .inl (List.mem_of_mem_drop h)
theorem logK_succ (s0 : Reg) (qs : List Rq) (k : Nat) : (logK s0 qs (k + 1)).1 = (applyP (logK s0 qs k).1 (qs.getD k default)).1 := rfl
theorem RunS.fresh {s0 : Reg} {rs rk : List Rp} {qs : List Rq} {k : Nat} {ps : List Pr} {ep : Int} {ms : List Mb} {es : List Ev} (h : RunS s0 rs qs k ps rk ep ms es) (ho : Once rs) {q : Rq} (hq : qs.getD k default = q) (hqk : q.ok) (hg : rqGood q = true)
    (hd : ∀ j, j < k → (qs.getD j default).client ≠ q.client) {i : Int} (hi : AtR rk q.client i) (hfr : ∀ k' : Nat, i = (k' : Int) → (rk.getD k' default).num < q.num) : freshP (logK s0 qs k).1 q = true := by
  unfold freshP
  rw [hg, Bool.true_and, Bool.or_eq_true, decide_eq_true_eq]
  cases hb : lastB ((logK s0 qs k).1.ds.map Rd.p) q.client with
  | false => left; rfl
  | true =>
    right
    have hlt := lastB_lt hb
    have hw : (wrap64 ((((logK s0 qs k).1.ds.map Rd.p).getD (lastI ((logK s0 qs k).1.ds.map Rd.p) q.client) default).client - q.client) == 0) = true := by
      unfold lastB at hb
      rw [Bool.and_eq_true] at hb
      exact hb.2
    obtain ⟨p, hp⟩ : ∃ p, ((logK s0 qs k).1.ds.map Rd.p).getD (lastI ((logK s0 qs k).1.ds.map Rd.p) q.client) default = p := ⟨_, rfl⟩
    have hpin := in_getD hlt
    rw [hp] at hw hpin ⊢
    obtain ⟨d, hdin, hdp⟩ := List.mem_map.1 hpin
    have hpc : p.client = d.1 := by rw [← hdp]; rfl
    have hpn : p.num = d.2.1 := by rw [← hdp]; rfl
    have hc : d.1 = q.client := by rw [hpc] at hw; exact wf_eq (h.wf d hdin) hqk.c hw
    have hno : ∀ j, j < k → (qs.getD j default).client ≠ d.1 := fun j hj => by rw [hc]; exact hd j hj
    have hrs := h.ds d hdin hno
    obtain ⟨r, hr, hrd⟩ := List.mem_map.1 ((h.rk d hno).2 hrs)
    have hrc : r.client = q.client := by have : r.d.1 = d.1 := by rw [hrd]
                                         rw [← hc, ← this]; rfl
    rcases hi with ⟨rfl, hn⟩ | ⟨k', hk', rfl, hkc, -⟩
    · obtain ⟨j, hj, hje⟩ := List.mem_iff_getElem.1 hr
      have := hn j hj
      rw [List.getD_eq_getElem?_getD, List.getElem?_eq_getElem hj] at this
      exact absurd (show (rk[j]).client = q.client by rw [hje]; exact hrc) this
    · have hnum := hfr k' rfl
      have hin : rk.getD k' default ∈ rk := in_getD hk'
      obtain ⟨x, hx⟩ : ∃ x, rk.getD k' default = x := ⟨_, rfl⟩
      rw [hx] at hkc hnum hin
      have hxd : x.d ∈ rs.map Rp.d := (h.rk x.d (fun j hj => by show (qs.getD j default).client ≠ x.client; rw [hkc]; exact hd j hj)).1 (List.mem_map.2 ⟨x, hin, rfl⟩)
      obtain ⟨a, ha, hae⟩ := List.mem_map.1 hxd
      obtain ⟨b, hb', hbe⟩ := List.mem_map.1 hrs
      have hab : a = b := ho a ha b hb' (by
        have e1 : a.client = x.client := congrArg (·.1) hae
        have e2 : b.client = d.1 := congrArg (·.1) hbe
        rw [e1, e2, hkc, hc])
      have hdx : d = x.d := by rw [← hbe, ← hab, hae]
      rw [hpn, hdx]
      exact hnum
theorem RunS.next {s0 : Reg} {rs rk : List Rp} {qs : List Rq} {k : Nat} {ps ps' : List Pr} {ep ep' : Int} {ms ms' : List Mb} {es : List Ev} (h : RunS s0 rs qs k ps rk ep ms es) (ho : Once rs) {q : Rq} (hq : qs.getD k default = q) (hqf : q.few) (hg : rqGood q = true)
    (hd : ∀ j, j < k → (qs.getD j default).client ≠ q.client) {i : Int} (hi : AtR rk q.client i) (hfr : ∀ k' : Nat, i = (k' : Int) → (rk.getD k' default).num < q.num) {code : Int} {out : List ByteArray} {A : Option Addr} {cv : Nat}
    (hdo : (code, out, ps', ep', ms') = doesP ps ep ms q.op) : RunS s0 rs qs (k + 1) ps' (withR rk ⟨q.client, q.num, code, A, cv, out⟩) ep' ms' (es ++ [⟨q, ⟨q.client, q.num, code, A, cv, out⟩, 2 * (k : Int), 2 * (k : Int) + 1⟩]) ∧ Few out := by
  have hf := h.fresh ho hq hqf.ok hg hd hi hfr
  obtain ⟨a1, a2, a3, a4, a5⟩ := apply_fresh hf
  rw [h.hp, h.he, h.hm, ← hdo] at a1 a2 a3 a4
  have hfit := applyP_fit h.fit hqf
  have hs : (logK s0 qs (k + 1)).1 = (applyP (logK s0 qs k).1 q).1 := by rw [logK_succ, hq]
  refine ⟨⟨by rw [hs]; exact a2, by rw [hs]; exact a3, by rw [hs]; exact a4, ?_, fun d hdn => ?_, fun d hdin hdn => ?_, fun d hdin => ?_, by rw [List.length_append, h.len]; rfl, fun j hj => ?_, fun a b hab hb => ?_, by rw [hs]; exact hfit.1⟩, by have := hfit.2; rw [a1] at this; exact this⟩
  · have := srt_does h.srt ep ms q.op
    rw [← hdo] at this
    exact this
  · have hne : d.1 ≠ q.client := fun c => hdn k (by omega) (by rw [hq, c])
    rw [← h.rk d (fun j hj => hdn j (by omega))]
    constructor
    · intro hx
      obtain ⟨r, hr, rfl⟩ := List.mem_map.1 hx
      rcases withR_mem hr with rfl | hr
      · exact absurd rfl hne
      · exact List.mem_map.2 ⟨r, hr, rfl⟩
    · intro hx
      obtain ⟨r, hr, rfl⟩ := List.mem_map.1 hx
      exact List.mem_map.2 ⟨r, withR_keep hne hr, rfl⟩
  · rw [hs] at hdin
    rcases a5 d hdin with c | c
    · exact h.ds d c (fun j hj => hdn j (by omega))
    · rw [a1] at c
      exact absurd (by rw [hq, c]) (hdn k (by omega))
  · rw [hs] at hdin
    rcases a5 d hdin with c | c
    · exact h.wf d c
    · rw [a1] at c
      rw [c]; exact hqf.ok.c
  · rcases Nat.lt_or_ge j k with c | c
    · have e : (es ++ [(⟨q, ⟨q.client, q.num, code, A, cv, out⟩, 2 * (k : Int), 2 * (k : Int) + 1⟩ : Ev)]).getD j default = es.getD j default := by
        rw [List.getD_eq_getElem?_getD, List.getD_eq_getElem?_getD, List.getElem?_append_left (by rw [h.len]; exact c)]
      rw [e]
      exact h.ev j c
    · obtain rfl : j = k := by omega
      have e : (es ++ [(⟨q, ⟨q.client, q.num, code, A, cv, out⟩, 2 * (j : Int), 2 * (j : Int) + 1⟩ : Ev)]).getD j default = ⟨q, ⟨q.client, q.num, code, A, cv, out⟩, 2 * (j : Int), 2 * (j : Int) + 1⟩ := by
        rw [List.getD_eq_getElem?_getD, List.getElem?_append_right (by rw [h.len]; exact Nat.le_refl _), h.len, Nat.sub_self]; rfl
      rw [e, hq]
      exact ⟨rfl, rfl, rfl, a1.symm, hf⟩
  · rcases Nat.lt_or_ge b k with c | c
    · exact h.dif a b hab c
    · obtain rfl : b = k := by omega
      rw [hq]; exact hd a hab
/-- the places of a log of fresh requests of different clients -/
theorem RunS.place {s0 : Reg} {rs rk : List Rp} {qs : List Rq} {n : Nat} {ps : List Pr} {ep : Int} {ms : List Mb} {es : List Ev} (h : RunS s0 rs qs n ps rk ep ms es) : ∀ k, k ≤ n → ∀ i, i < k → (logK s0 qs k).2 (qs.getD i default).client (qs.getD i default).num = some (i, (applyP (logK s0 qs i).1 (qs.getD i default)).2) := by
  intro k
  induction k with
  | zero => intro _ i hi; omega
  | succ k ih =>
    intro hk i hi
    obtain ⟨-, -, -, -, hf⟩ := h.ev k (by omega)
    have e : (logK s0 qs (k + 1)).2 = setP (logK s0 qs k).2 (qs.getD k default).client (qs.getD k default).num (k, (applyP (logK s0 qs k).1 (qs.getD k default)).2) := by
      show (if freshP (logK s0 qs k).1 (qs.getD k default) = true then _ else _) = _
      rw [if_pos hf]
    rw [e]
    unfold setP
    rcases Nat.lt_or_ge i k with c | c
    · rw [if_neg (fun c2 => h.dif i k c (by omega) c2.1)]
      exact ih (by omega) i c
    · obtain rfl : i = k := by omega
      rw [if_pos ⟨rfl, rfl⟩]
theorem RunS.check {s0 : Reg} {rs rk : List Rp} {qs : List Rq} {ps : List Pr} {ep : Int} {ms : List Mb} {es : List Ev} (h : RunS s0 rs qs qs.length ps rk ep ms es) : checkP s0 qs es = 0 := by
  have hpl := h.place qs.length (Nat.le_refl _)
  have hget : ∀ m ∈ es, ∃ i, i < qs.length ∧ m = es.getD i default := fun m hm => by
    obtain ⟨i, hi, rfl⟩ := List.mem_iff_getElem.1 hm
    exact ⟨i, by rw [← h.len]; exact hi, by rw [List.getD_eq_getElem?_getD, List.getElem?_eq_getElem hi]; rfl⟩
  have hF : ∀ m ∈ es, evFail qs (logK s0 qs qs.length).2 m = 0 := fun m hm => by
    obtain ⟨i, hi, rfl⟩ := hget m hm
    obtain ⟨e1, e2, e3, e4, -⟩ := h.ev i hi
    unfold evFail
    rw [if_neg (by rw [e3]; omega), e1, hpl i hi]
    show (if (!rqEq (qs.getD i default) (qs.getD i default) || !sameR (applyP (logK s0 qs i).1 (qs.getD i default)).2 (es.getD i default).r.d) = true then (9 : Int) else 0) = 0
    rw [e4, rqEq_self, sameR_self]
    rfl
  have hfind : (es.map (evFail qs (logK s0 qs qs.length).2)).find? (fun c => decide (c ≠ 0)) = none := by
    rw [List.find?_eq_none]
    intro c hc
    obtain ⟨m, hm, rfl⟩ := List.mem_map.1 hc
    rw [hF m hm]
    decide
  unfold checkP
  rw [hfind]
  show (if (es.any fun a => es.any fun b => chainB (logK s0 qs qs.length).2 a b) = true then (12 : Int) else 0) = 0
  rw [if_neg]
  intro hany
  obtain ⟨a, ha, h1⟩ := List.any_eq_true.1 hany
  obtain ⟨b, hb, h2⟩ := List.any_eq_true.1 h1
  obtain ⟨i, hi, rfl⟩ := hget a ha
  obtain ⟨j, hj, rfl⟩ := hget b hb
  obtain ⟨e1, e2, e3, e4, -⟩ := h.ev i hi
  obtain ⟨f1, f2, f3, f4, -⟩ := h.ev j hj
  unfold chainB at h2
  rw [e1, f1, hpl i hi, hpl j hj] at h2
  simp only [Bool.and_eq_true, decide_eq_true_eq] at h2
  rw [e3, f2] at h2
  omega
theorem RunS.linear {s0 : Reg} {rs rk : List Rp} {qs : List Rq} {n : Nat} {ps : List Pr} {ep : Int} {ms : List Mb} {es : List Ev} (h : RunS s0 rs qs n ps rk ep ms es) : ∀ d i, i + d = n → searchP d (logK s0 qs i).1 (es.drop i) = true := by
  intro d
  induction d with
  | zero =>
    intro i hi
    rw [List.drop_of_length_le (by rw [h.len]; omega)]
    rfl
  | succ d ih =>
    intro i hi
    have hlt : i < n := by omega
    obtain ⟨e1, e2, e3, e4, -⟩ := h.ev i hlt
    have hd : es.drop i = es.getD i default :: es.drop (i + 1) := by
      rw [List.drop_eq_getElem_cons (by rw [h.len]; exact hlt), List.getD_eq_getElem?_getD, List.getElem?_eq_getElem (by rw [h.len]; exact hlt)]; rfl
    unfold searchP
    rw [Bool.or_eq_true]
    right
    refine List.any_eq_true.2 ⟨0, by rw [List.mem_range, hd]; simp, ?_⟩
    unfold stepP
    have hg : (es.drop i).getD 0 default = es.getD i default := by rw [hd]; rfl
    have hna : ((es.drop i).any fun o => aheadE o (es.getD i default)) = false := by
      rw [List.any_eq_false]
      intro o ho
      obtain ⟨j, hj, rfl⟩ := List.mem_iff_getElem.1 ho
      rw [List.length_drop, h.len] at hj
      rw [List.getElem_drop]
      obtain ⟨-, -, g3, -, -⟩ := h.ev (i + j) (by omega)
      rw [List.getD_eq_getElem?_getD, List.getElem?_eq_getElem (by rw [h.len]; omega)] at g3
      unfold aheadE
      have g3' : (es[i + j]'(by rw [h.len]; omega)).done = 2 * ((i + j : Nat) : Int) + 1 := g3
      rw [g3', e2]
      rw [Bool.not_eq_true, Bool.and_eq_false_iff]
      right
      rw [decide_eq_false_iff_not]
      omega
    rw [hg, hna, e1, e4, sameR_self]
    have her : (es.drop i).eraseIdx 0 = es.drop (i + 1) := by rw [hd]; rfl
    rw [her, ← logK_succ, ih (i + 1) (by omega)]
    simp
end Go.Proofs.YtfnfgnhbnffagaaDoor
