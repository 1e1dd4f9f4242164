/-
A client's last reply; a key's value.
-/
import Derived.Test.YthaeofiplhbggaaDoorCopd
namespace Go.Proofs.YthaeofiplhbggaaDoor
open Go.RowKit
set_option linter.unusedVariables false
set_option linter.unusedSimpArgs false
set_option maxRecDepth 100000
@[go_sem] theorem zero_rep : SizeIs Rp.zero.arr 4 := rfl
@[go_sem] theorem cut4 (a b c d : Value) : cut #[a, b, c, d] 0 4 = some #[a, b, c, d] := cut_all _ _ rfl
/-- what Last answers -/
def LastEnd (rs : List Rp) (c : Int) (w : World) (e : Ending) (w' : World) : Prop :=
  Below w.heap.size w w' ∧ ((lastB rs c = false ∧ e = .returned (.tuple #[.agg #[.int .i64 0, .int .i64 0, .int .i64 0, .slice none 0 0], .bool false])) ∨
    (lastB rs c = true ∧ ∃ v, e = .returned (.tuple #[.agg #[.int .i64 (rs.getD (lastI rs c) default).client, .int .i64 (rs.getD (lastI rs c) default).num, .int .i64 (rs.getD (lastI rs c) default).code, v], .bool true]) ∧ OT w' w.heap.size v (rs.getD (lastI rs c) default).vals))
set_option maxHeartbeats 4000000 in
theorem Last_none (v : Value) (ps : List Pr) (rs : List Rp) (ep : Int) (ms : List Mb) (c : Int) (w : World) (h : StS w v ps rs ep ms) (hb : lastB rs c = false) : Calls Tryd.prog 5 #[v, .int .i64 c] w fun e w' => e = .returned (.tuple #[.agg #[.int .i64 0, .int .i64 0, .int .i64 0, .slice none 0 0], .bool false]) ∧ Below w.heap.size w w' := by
  obtain ⟨Ap, cp, Ar, cr, Am, cm, rfl, h1, h2, h3, h4, h5, h6, h7⟩ := h.ex
  have hB : Below w.heap.size w ((w.alloc (.cells #[.slice Ap ps.length cp, .slice Ar rs.length cr, .int .i64 ep, .slice Am ms.length cm] 28)).alloc (.cells #[.int .i64 0, .int .i64 0, .int .i64 0, .slice none 0 0] 43)) := ((Below.refl _ _).alloc (Nat.le_refl _) _).alloc (by simp) _
  have hZ : Bx ((w.alloc (.cells #[.slice Ap ps.length cp, .slice Ar rs.length cr, .int .i64 ep, .slice Am ms.length cm] 28)).alloc (.cells #[.int .i64 0, .int .i64 0, .int .i64 0, .slice none 0 0] 43)) (w.heap.size + 1) 4 43 := by
    have := Bx.made (w.alloc (.cells #[.slice Ap ps.length cp, .slice Ar rs.length cr, .int .i64 ep, .slice Am ms.length cm] 28)) #[.int .i64 0, .int .i64 0, .int .i64 0, .slice none 0 0] 43 4 rfl
    simpa using this
  have H3 := h3.below hB
  have HB := Lib.hid hb
  clear h h1 h2 h3 h4 h5 h6 h7 hb
  go_enter Tryd.func5, Tryd.ntmps5
  go_wp2_with fail
  refine (last_any _ _ Ar rs.length cr ep rs c _ H3).mono ?_
  rw [HB.out]
  rintro e w3 ⟨rfl, hb3⟩
  obtain ⟨p1, p2, -⟩ := (hZ.below hb3).put (cs := #[.int .i64 0, .int .i64 0, .int .i64 0, .slice none 0 0]) rfl (by simp [oneCells, Value.oneCell'])
  have hB3 := below_setRow (hB.trans (hb3.mono hB.size)) (Nat.le_succ w.heap.size) #[.int .i64 0, .int .i64 0, .int .i64 0, .slice none 0 0]
  clear hb3 hZ H3 hB
  go_wp2_with fail
  refine bodyPost_ret (v := .tuple #[.agg #[.int .i64 0, .int .i64 0, .int .i64 0, .slice none 0 0], .bool false]) (by rw [results_cell2 Tryd.results5]; simp [go_sem, p2]) rfl ⟨rfl, hB3⟩
set_option maxHeartbeats 4000000 in
theorem Last_some (v : Value) (ps : List Pr) (rs : List Rp) (ep : Int) (ms : List Mb) (c : Int) (w : World) (h : StS w v ps rs ep ms) (hb : lastB rs c = true) : Calls Tryd.prog 5 #[v, .int .i64 c] w fun e w' => Below w.heap.size w w' ∧ ∃ v, e = .returned (.tuple #[.agg #[.int .i64 (rs.getD (lastI rs c) default).client, .int .i64 (rs.getD (lastI rs c) default).num, .int .i64 (rs.getD (lastI rs c) default).code, v], .bool true]) ∧ OT w' w.heap.size v (rs.getD (lastI rs c) default).vals := by
  obtain ⟨Ap, cp, Ar, cr, Am, cm, rfl, h1, h2, h3, h4, h5, h6, h7⟩ := h.ex
  have hlen := h3.len
  obtain ⟨n, hn⟩ : ∃ n, rs.length = n := ⟨_, rfl⟩
  rw [hn] at h3 h4 hlen ⊢
  have hi := lastB_lt hb
  rw [hn] at hi
  have HN := Lib.hid hn
  clear h hn
  have hB : Below w.heap.size w ((w.alloc (.cells #[.slice Ap ps.length cp, .slice Ar n cr, .int .i64 ep, .slice Am ms.length cm] 28)).alloc (.cells #[.int .i64 0, .int .i64 0, .int .i64 0, .slice none 0 0] 43)) := ((Below.refl _ _).alloc (Nat.le_refl _) _).alloc (by simp) _
  have hZ : Bx ((w.alloc (.cells #[.slice Ap ps.length cp, .slice Ar n cr, .int .i64 ep, .slice Am ms.length cm] 28)).alloc (.cells #[.int .i64 0, .int .i64 0, .int .i64 0, .slice none 0 0] 43)) (w.heap.size + 1) 4 43 := by
    have := Bx.made (w.alloc (.cells #[.slice Ap ps.length cp, .slice Ar n cr, .int .i64 ep, .slice Am ms.length cm] 28)) #[.int .i64 0, .int .i64 0, .int .i64 0, .slice none 0 0] 43 4 rfl
    simpa using this
  have hA : ((w.alloc (.cells #[.slice Ap ps.length cp, .slice Ar n cr, .int .i64 ep, .slice Am ms.length cm] 28)).alloc (.cells #[.int .i64 0, .int .i64 0, .int .i64 0, .slice none 0 0] 43)).heap[w.heap.size]? = some (.cells #[.slice Ap ps.length cp, .slice Ar n cr, .int .i64 ep, .slice Am ms.length cm] 28 (0, 0)) := by
    rw [Below.heap_alloc _ _ _ (by simp)]; exact heap_alloc_new w _
  have H3 := h3.below hB
  obtain ⟨b, off, rfl, hbb, hel⟩ := h3.mem (by omega)
  have hr := hel _ hi
  have hok := h3.okAt hi
  have hin : rs.getD (lastI rs c) default ∈ rs := by
    rw [List.getD_eq_getElem?_getD, List.getElem?_eq_getElem (by have := HN.out; omega)]
    exact List.getElem_mem _
  obtain ⟨ht, hs⟩ := h7 _ hin
  generalize hI : lastI rs c = i at hi hr hok hin ht hs ⊢
  generalize rs.getD i default = r at hr hok hin ht hs ⊢
  obtain ⟨rc, rn, re, rA, rq, vals⟩ := r
  obtain ⟨q, hq⟩ : ∃ q, vals.length = q := ⟨_, rfl⟩
  replace hr : rowAt w b (off + i * 4) 4 = some #[.int .i64 rc, .int .i64 rn, .int .i64 re, .slice rA vals.length rq] := hr
  rw [hq] at hr
  simp only [hq] at ht hs
  have hsm := h3.small
  have hin1 : (i : Int) < n := by omega
  have hin0 : (0 : Int) ≤ i := by omega
  have hin2 : ¬ (i : Int) < 0 := by omega
  have hni : (n : Int) ≤ 140737488355328 := by omega
  have E := Lib.hid (And.intro hb (And.intro hI (And.intro hq (And.intro hok hin))))
  clear h1 h2 h3 h4 h5 h6 h7 hb hI hq hok hin hel hsm hlen
  go_enter Tryd.func5, Tryd.ntmps5
  go_wp2_with fail
  refine (last_any _ _ _ n cr ep rs c _ H3).mono ?_
  rw [E.out.1, E.out.2.1]
  rintro e w3 ⟨rfl, hb3⟩
  have hB3 := hB.trans (hb3.mono hB.size)
  have hr3 := (rowAt_below hB3 hbb _ _).trans hr
  have hA3 := (hb3.block _ (by simp; omega)).trans hA
  have a31 : w3.cell? ⟨w.heap.size, 1, none⟩ = some (.slice (some ⟨b, off, none⟩) n cr) := by rw [cell_of_row _ _ _ _ _ _ hA3]; rfl
  have hZ3 := hZ.below hb3
  have hg4 := heap_alloc_new w3 (.cells #[.int .i64 rc, .int .i64 rn, .int .i64 re, .slice rA q rq] 43)
  have b4 : Below w3.heap.size w3 (w3.alloc (.cells #[.int .i64 rc, .int .i64 rn, .int .i64 re, .slice rA q rq] 43)) := (Below.refl _ _).alloc (Nat.le_refl _) _
  have ht4 := ht.below (hB3.trans (b4.mono hB3.size))
  have E3 := Lib.hid (And.intro hB3 (And.intro hZ3 (And.intro hg4 b4)))
  clear hB hA hZ H3 hb3 hB3 hA3 hZ3 hg4 b4 ht hr hin2
  have hin2 : ¬ (i : Int) < 0 := by omega
  go_wp2_with fail
  refine (cloneS_any rA q rq vals _ ht4 hs).mono ?_
  rintro e w6 ⟨v6, rfl, ot6, hb6⟩
  obtain ⟨hB3, hZ3, hg4, b4⟩ := E3.out
  obtain ⟨A6, c6, hv6, -, -⟩ := ot6.ts (E.out.2.2.2.1.l)
  rw [E.out.2.2.1] at hv6
  subst hv6
  have hg6 := (hb6.block _ (by simp)).trans hg4
  have hz6 := (hZ3.below b4).below hb6
  have hlt3 := hZ3.lt
  have f63 : w6.frozen? ⟨w3.heap.size, 3, none⟩ = false := by simp [World.frozen?, hg6]
  have c63 : w6.cell? ⟨w3.heap.size, 3, none⟩ = some (.slice rA q rq) := by rw [cell_of_row _ _ _ _ _ _ hg6]; rfl
  have hrow : rowAt (w6.setCell ⟨w3.heap.size, 3, none⟩ (.slice A6 q c6)) w3.heap.size 0 4 = some #[.int .i64 rc, .int .i64 rn, .int .i64 re, .slice A6 q c6] := by
    unfold rowAt
    rw [heap_setCell_same _ _ _ _ _ _ hg6]
    exact cut_all _ _ rfl
  have hz7 := hz6.of_block (w' := w6.setCell ⟨w3.heap.size, 3, none⟩ (.slice A6 q c6)) (heap_setCell_other _ _ _ _ (by simp; omega))
  obtain ⟨p1, p2, -⟩ := hz7.put (cs := #[.int .i64 rc, .int .i64 rn, .int .i64 re, .slice A6 q c6]) rfl (by simp [oneCells, Value.oneCell'])
  have hbz : Below w.heap.size w ((w6.setCell ⟨w3.heap.size, 3, none⟩ (.slice A6 q c6)).setRow (w.heap.size + 1) #[.int .i64 rc, .int .i64 rn, .int .i64 re, .slice A6 q c6]) := by
    have h1 := hB3.trans ((b4.trans (hb6.mono b4.size)).mono hB3.size)
    refine below_setRow ?_ (Nat.le_succ _) _
    rw [setCell_eq_setRow _ _ _ _ _ _ _ hg6]
    exact below_setRow h1 hB3.size _
  have otz : OT ((w6.setCell ⟨w3.heap.size, 3, none⟩ (.slice A6 q c6)).setRow (w.heap.size + 1) #[.int .i64 rc, .int .i64 rn, .int .i64 re, .slice A6 q c6]) w.heap.size (.slice A6 q c6) vals := by
    have h1 := hB3.size
    have hl : ∀ g, (Value.slice A6 q c6).ownBlock = some g → w3.heap.size + 1 ≤ g := fun g hg => by have := (own_lt ot6 hg).1; simpa using this
    refine own_mv (fp := fun i => i = w.heap.size + 1 ∨ i = w3.heap.size) (own_mono ot6 (by simp; omega)) ((Mv.setCell (fp := fun i => i = w.heap.size + 1 ∨ i = w3.heap.size) _ _ _ (.inr rfl)).trans (Mv.setRow (fp := fun i => i = w.heap.size + 1 ∨ i = w3.heap.size) _ _ _ (.inl rfl)) (fun _ _ h => h)) (fun g hg c => ?_)
    have := hl g hg
    rcases c with c | c <;> omega
  have HZ := Lib.hid (And.intro hbz otz)
  have nb : ¬ w3.heap.size = w.heap.size + 1 := by omega
  clear hbz otz hz7 hz6 hg6 hb6 ot6 hB3 hZ3 hg4 b4 hr3 a31
  go_wp2_with fail
  refine bodyPost_ret (v := .tuple #[.agg #[.int .i64 rc, .int .i64 rn, .int .i64 re, .slice A6 q c6], .bool true]) (by rw [results_cell2 Tryd.results5]; simp [go_sem, p2]) rfl ?_
  exact ⟨HZ.out.1, _, rfl, HZ.out.2⟩
set_option maxHeartbeats 4000000 in
theorem Get_some (v : Value) (ps : List Pr) (rs : List Rp) (ep : Int) (ms : List Mb) (key : ByteArray) (w : World) (h : StS w v ps rs ep ms) (hb : pairB ps key = true) : Calls Tryd.prog 12 #[v, .string key] w fun e w' => e = .returned (.tuple #[.string (ps.getD (pairI ps key) default).val, .bool true]) ∧ Below w.heap.size w w' := by
  obtain ⟨Ap, cp, Ar, cr, Am, cm, rfl, h1, h2, h3, h4, h5, h6, h7⟩ := h.ex
  have hlen := h1.len
  obtain ⟨n, hn⟩ : ∃ n, ps.length = n := ⟨_, rfl⟩
  rw [hn] at h1 h2 hlen ⊢
  have hi := pairB_lt hb
  rw [hn] at hi
  clear h hn
  have hsm := h1.small
  have hB : Below w.heap.size w (w.alloc (.cells #[.slice Ap n cp, .slice Ar rs.length cr, .int .i64 ep, .slice Am ms.length cm] 28)) := (Below.refl _ _).alloc (Nat.le_refl _) _
  have hA := heap_alloc_new w (.cells #[.slice Ap n cp, .slice Ar rs.length cr, .int .i64 ep, .slice Am ms.length cm] 28)
  have H1 := h1.below hB
  obtain ⟨b, off, rfl, hbb, hel⟩ := h1.mem (by omega)
  have hr := hel _ hi
  generalize hI : pairI ps key = i at hi hr ⊢
  generalize ps.getD i default = r at hr ⊢
  have c1 := cell_of_rowAt hr 1 _ r.at1
  have hin1 : (i : Int) < n := by omega
  have hin0 : ¬ (i : Int) < 0 := by omega
  have hni : (n : Int) ≤ 140737488355328 := by omega
  have E := Lib.hid (And.intro hb hI)
  clear h1 h2 h3 h4 h5 h6 h7 hb hI hel hsm hr
  go_enter Tryd.func12, Tryd.ntmps12
  go_wp2_with fail
  refine (pair_any _ _ _ n cp ep ps key _ H1).mono ?_
  rw [E.out.1, E.out.2]
  rintro e w3 ⟨rfl, hb3⟩
  have hB3 := hB.trans (hb3.mono hB.size)
  have c31 := (hB3.cell (p := ⟨b, off + i * 2 + 1, none⟩) hbb).trans c1
  have a31 : w3.cell? ⟨w.heap.size, 0, none⟩ = some (.slice (some ⟨b, off, none⟩) n cp) := by rw [cell_of_row _ _ _ _ _ _ ((hb3.block _ (by simp)).trans hA)]; rfl
  clear hB hA H1 hb3 c1
  go_wp2_with fail
  go_ret2
  exact ⟨rfl, hB3⟩
end Go.Proofs.YthaeofiplhbggaaDoor
