/-
Texts, and whether records are these.
-/
import Derived.Test.YtldicnhpccionaaDoorWal
namespace Go.Proofs.YtldicnhpccionaaDoor
open Go.RowKit
set_option linter.unusedVariables false
set_option linter.unusedSimpArgs false
def tx (l : List UInt8) : ByteArray := ⟨l.toArray⟩
theorem tx_list (l : List UInt8) : (tx l).toList = l := ByteArray.toList_mk l
theorem bytes_ext {a b : ByteArray} (h : a.toList = b.toList) : a = b := by
  rw [ByteArray.toList_eq, ByteArray.toList_eq] at h
  have := Array.toList_inj.1 h
  cases a; cases b; simpa using this
theorem tx_inj {l m : List UInt8} (h : tx l = tx m) : l = m := by rw [← tx_list l, h, tx_list]
/-- a slice over strings -/
structure Strs (P : Nat → Prop) (w : World) (v : Value) (ss : List ByteArray) : Prop where
  ex : ∃ A cap, v = .slice A ss.length cap ∧ (0 < ss.length → ∃ g o, A = some ⟨g, o, none⟩ ∧ g < w.heap.size ∧ P g ∧ ∀ i, i < ss.length → w.cell? ⟨g, o + i, none⟩ = some (.string (ss.getD i ByteArray.empty)))
theorem Strs.mv {P P' : Nat → Prop} {w w' : World} {v : Value} {ss : List ByteArray} {fp : Nat → Prop} (h : Strs P w v ss) (m : Mv fp w w') (hp : ∀ i, i < w.heap.size → P i → ¬ fp i ∧ P' i) : Strs P' w' v ss := by
  obtain ⟨A, cap, hv, he⟩ := h.ex
  refine ⟨⟨A, cap, hv, fun h0 => ?_⟩⟩
  obtain ⟨g, o, hA, hg, hP, hel⟩ := he h0
  exact ⟨g, o, hA, Nat.lt_of_lt_of_le hg m.size, (hp g hg hP).2, fun i hi => (m.cell (p := ⟨g, o + i, none⟩) hg (hp g hg hP).1).trans (hel i hi)⟩
theorem Strs.below {P : Nat → Prop} {w w' : World} {v : Value} {ss : List ByteArray} (h : Strs P w v ss) (hb : Below w.heap.size w w') : Strs P w' v ss :=
  h.mv (Mv.of_below (fp := fun _ => False) hb) (fun i _ hP => ⟨fun c => c, hP⟩)
theorem infoT : (Tryd.prog.info? 9).map (fun i => (i.zero, i.size, i.bytes)) = some (some (.string ByteArray.empty), 1, 16) := by kernel_rfl
def strV (ss : List ByteArray) : List Value := ss.map Value.string
/-- a row of strings of one's own -/
def OT (w : World) (B : Nat) (v : Value) (ss : List ByteArray) : Prop := w.ownsRow B 9 1 v ss.length (strV ss)
theorem OT.strs {w : World} {B : Nat} {v : Value} {ss : List ByteArray} (h : OT w B v ss) : Strs (fun i => B ≤ i) w v ss := by
  rcases h.2 with ⟨rfl, h0⟩ | ⟨g, cap, cur, rfl, hB, hh, hc, hm, hs, hx⟩
  · exact ⟨⟨none, 0, by rw [h0], fun h => by omega⟩⟩
  · refine ⟨⟨_, cap, rfl, fun h => ⟨g, 0, rfl, (Array.getElem?_eq_some_iff.1 hh).1, hB, fun i hi => ?_⟩⟩⟩
    have hv : (strV ss)[i]? = some (.string (ss.getD i ByteArray.empty)) := by
      unfold strV
      rw [List.getElem?_map, List.getD_eq_getElem?_getD, List.getElem?_eq_getElem hi]; rfl
    rw [Nat.zero_add]
    rw [← hx, Nat.mul_one] at hv
    rw [List.getElem?_take, if_pos hi] at hv
    simp [World.cell?, hh]
    simpa using hv
theorem ot_push {w : World} {B : Nat} {v : Value} {ss : List ByteArray} (ty : TypeId) (h : OT w B v ss) (s : ByteArray) (hn : ss.length ≤ 100000) (hB : B ≤ w.heap.size) :
    ∃ v' w', (apRow #[30, 30] ty #[v, .slice (some ⟨w.heap.size, 0, none⟩) 1 1]).run Tryd.prog (w.alloc (.cells #[.string s] 9)) = .ok v' w' ∧ OT w' B v' (ss ++ [s]) ∧ Below B w w' := by
  obtain ⟨i0, hi, hz0, hz1, hz2⟩ := info_parts infoT
  have hlt : ∀ k, v.ownBlock = some k → B ≤ k ∧ k < w.heap.size := by
    intro k hk
    rcases h.2 with ⟨rfl, -⟩ | ⟨g', cap, cur, rfl, hB', hh, -⟩
    · cases hk
    · simp [Value.ownBlock] at hk; subst hk; exact ⟨hB', (Array.getElem?_eq_some_iff.1 hh).1⟩
  obtain ⟨v', w', h1, h2, h3, -, h5⟩ := run_append_own_at (P := Tryd.prog) (w.alloc (.cells #[.string s] 9)) B 30 ty 9 i0 (.string ByteArray.empty) 1 16 Tryd.underlying30 hi hz0 hz1 hz2 rfl (by decide) v ss.length (strV ss) (World.ownsRow.alloc h _) ⟨w.heap.size, 0, none⟩ 1 1 [.string s] rfl
    (fun j u hu => by rw [Addr.add_mid, Nat.zero_add, World.cell?_alloc_at _ _ _ _ rfl]; simpa using hu) (by intro u hu; simp only [List.mem_singleton] at hu; rw [hu]; rfl) (by simp only [maxLen]; omega) (by omega) (by simp; omega)
  refine ⟨v', w', h1, ?_, ((Below.refl B w).alloc hB _).grown h3 (by simp; omega) (fun k hk => (hlt k hk).1)⟩
  unfold OT strV
  rw [List.length_append, List.map_append]
  exact h2
theorem ot_nil (w : World) (B : Nat) : OT w B (.slice none 0 0) [] := World.ownsRow_nil _ _ _ _
theorem OT.below {w w' : World} {B : Nat} {v : Value} {ss : List ByteArray} (h : OT w B v ss) (hb : Below w.heap.size w w') : OT w' B v ss := by
  refine ⟨h.1, ?_⟩
  rcases h.2 with h0 | ⟨g, cap, cur, hv, hB, hh, r⟩
  · exact .inl h0
  · exact .inr ⟨g, cap, cur, hv, hB, (hb.block g (Array.getElem?_eq_some_iff.1 hh).1).trans hh, r⟩
theorem ot_shape {w : World} {B : Nat} {v : Value} {ss : List ByteArray} {n : Nat} (h : OT w B v ss) (hn : ss.length = n) : ∃ A cap, v = .slice A n cap := by
  subst hn
  rcases h.2 with ⟨rfl, h0⟩ | ⟨g', cap, cur, rfl, -⟩
  · exact ⟨none, 0, by rw [h0]⟩
  · exact ⟨_, cap, rfl⟩
@[go_sem ↓] theorem ap_T_tx (ty : TypeId) (args : Array Value) : Builtin.append_ #[30, 30] ty args = apRow #[30, 30] ty args := rfl
/-- what texts answers -/
def TextsEnd (ls : List (List UInt8)) (w : World) (e : Ending) (w' : World) : Prop := ∃ v, e = .returned v ∧ OT w' w.heap.size v (ls.map tx) ∧ Below w.heap.size w w'
set_option maxRecDepth 100000 in
set_option maxHeartbeats 1000000 in
theorem texts_any {P : Nat → Prop} (v : Value) (ls : List (List UInt8)) (w : World) (hL : Lst P w v ls) (hn : ls.length ≤ 100000) : Calls Tryd.prog 11 #[v] w (TextsEnd ls w) := by
  obtain ⟨A, cap, rfl, hcap, hel⟩ := hL.ex
  obtain ⟨n, hn'⟩ : ∃ n, ls.length = n := ⟨_, rfl⟩
  have hni : (n : Int) ≤ 100000 := by omega
  have hni0 : (0 : Int) ≤ n := by omega
  have HEL := Lib.hid hel
  have HN := Lib.hid hn'
  rw [hn']
  clear hL hel hn' hn hcap
  go_enter Tryd.func11, Tryd.ntmps11
  go_wp2_with fail
  go_loopw [3, 8] (fun s t wr => ∃ k : Nat, k ≤ n ∧ t = .int .i64 k ∧ OT wr w.heap.size s ((ls.take k).map tx) ∧ Below w.heap.size w wr) (fun _ t _ => n - (intOf t).toNat)
  case atStart => exact ⟨0, Nat.zero_le _, rfl, ot_nil _ _, Below.refl _ _⟩
  case round =>
    obtain ⟨k, hk, rfl, ho, hb⟩ := hrel
    have hk0 : (0 : Int) ≤ k := by omega
    by_cases hlt : k < n
    · obtain ⟨g, o, rfl, hg, hP, hel⟩ := HEL.out (by have := HN.out; omega)
      have hlk : k < ls.length := by have := HN.out; omega
      obtain ⟨Ak, ck, hc, hbl, hA, -⟩ := (hel k hlk).ex
      have htk : (ls.take (k + 1)).map tx = (ls.take k).map tx ++ [tx (ls.getD k [])] := by
        rw [List.take_succ_eq_append_getElem hlk, List.map_append, List.getD_eq_getElem?_getD, List.getElem?_eq_getElem hlk]; rfl
      have hlen : ((ls.take k).map tx).length ≤ 100000 := by rw [List.length_map, List.length_take]; omega
      generalize ls.getD k [] = l at hc hbl hA htk
      obtain ⟨m, hm⟩ : ∃ m, l.length = m := ⟨_, rfl⟩
      have hcv := conv_bytes (hbl.below hb) (fun e => (hA e).2) ck
      rw [hm] at hc hcv
      replace hcv : (convert 25 9 (.slice Ak m ck)).run Tryd.prog wr = .ok (.string (tx l)) wr := hcv
      have hk1 : (k : Int) < n := by omega
      have hcr : wr.cell? ⟨g, o + k, none⟩ = some (.slice Ak m ck) := (hb.cell (p := ⟨g, o + k, none⟩) hg).trans hc
      obtain ⟨v', w2, r2, o2, b2⟩ := ot_push 30 ho (tx l) hlen hb.size
      obtain ⟨Aa, ca, rfl⟩ := ot_shape ho rfl
      rw [← htk] at o2
      have E := Lib.hid (And.intro o2 ((hb.trans b2)))
      clear hc hbl hA htk hlen hb ho hm hel hP hg o2 b2
      generalize ((ls.take k).map tx).length = la at r2 ⊢
      go_wp2_with fail
      go_roundw
      case rel => exact ⟨k + 1, by omega, by go_num, E.out.1, E.out.2⟩
      case measure => simp [intOf]; omega
    · have hkn : k = n := by omega
      rw [show ls.take k = ls by rw [hkn, ← HN.out, List.take_length]] at ho
      have E := Lib.hid (And.intro ho hb)
      clear ho hb
      go_wp2_with fail
      go_ret
      exact ⟨_, rfl, E.out.1, E.out.2⟩
/-- whether records are these texts -/
def SameEnd (ls : List (List UInt8)) (ss : List ByteArray) (w : World) (e : Ending) (w' : World) : Prop := ∃ b, e = .returned (.bool b) ∧ (b = true ↔ ls.map tx = ss) ∧ Below w.heap.size w w'
set_option maxRecDepth 100000 in
set_option maxHeartbeats 1000000 in
theorem same_any {P P2 : Nat → Prop} (v v2 : Value) (ls : List (List UInt8)) (ss : List ByteArray) (w : World) (hL : Lst P w v ls) (hT : Strs P2 w v2 ss) (hn : ls.length ≤ 100000) (hn2 : ss.length ≤ 100000) : Calls Tryd.prog 17 #[v, v2] w (SameEnd ls ss w) := by
  obtain ⟨A, cap, rfl, hcap, hel⟩ := hL.ex
  obtain ⟨A2, cap2, rfl, hel2⟩ := hT.ex
  obtain ⟨n, hn'⟩ : ∃ n, ls.length = n := ⟨_, rfl⟩
  obtain ⟨n2, hn2'⟩ : ∃ n, ss.length = n := ⟨_, rfl⟩
  have hni : (n : Int) ≤ 100000 := by omega
  have hni0 : (0 : Int) ≤ n := by omega
  have HEL := Lib.hid hel
  have HEL2 := Lib.hid hel2
  have HN := Lib.hid hn'
  have HN2 := Lib.hid hn2'
  rw [hn', hn2']
  clear hL hel hn' hn hcap hT hel2 hn2' hn2
  go_enter Tryd.func17, Tryd.ntmps17
  by_cases hne : n = n2
  · subst hne
    go_wp2_with fail
    go_loopw [13] (fun t wr => ∃ k : Nat, k ≤ n ∧ t = .int .i64 k ∧ (∀ i, i < k → tx (ls.getD i []) = ss.getD i ByteArray.empty) ∧ Below w.heap.size w wr) (fun t _ => n - (intOf t).toNat)
    case atStart => exact ⟨0, Nat.zero_le _, rfl, fun i h => absurd h (Nat.not_lt_zero i), Below.refl _ _⟩
    case round =>
      obtain ⟨k, hk, rfl, hall, hb⟩ := hrel
      have hk0 : (0 : Int) ≤ k := by omega
      by_cases hlt : k < n
      · obtain ⟨g, o, rfl, hg, hP, hel⟩ := HEL.out (by have := HN.out; omega)
        obtain ⟨g2, o2, rfl, hg2, hP2, hel2⟩ := HEL2.out (by have := HN2.out; omega)
        obtain ⟨Ak, ck, hc, hbl, hA, -⟩ := (hel k (by have := HN.out; omega)).ex
        have hc2 := hel2 k (by have := HN2.out; omega)
        have HALL := Lib.hid hall
        have HBB := Lib.hid hb
        have hcase : ((tx (ls.getD k [])).toList == (ss.getD k ByteArray.empty).toList) = true ∧ (tx (ls.getD k []) = ss.getD k ByteArray.empty) ∨ ((tx (ls.getD k [])).toList == (ss.getD k ByteArray.empty).toList) = false ∧ ls.map tx ≠ ss := by
          by_cases e : tx (ls.getD k []) = ss.getD k ByteArray.empty
          · exact .inl ⟨by rw [e, beq_iff_eq], e⟩
          · refine .inr ⟨?_, fun c => e ?_⟩
            · rw [beq_eq_false_iff_ne]
              exact fun c => e (bytes_ext c)
            · rw [← c]
              rw [List.getD_eq_getElem?_getD, List.getD_eq_getElem?_getD, List.getElem?_map, List.getElem?_eq_getElem (by have := HN.out; omega)]
              rfl
        obtain ⟨s2, hs2⟩ : ∃ s, ss.getD k ByteArray.empty = s := ⟨_, rfl⟩
        obtain ⟨l, hl⟩ : ∃ s, ls.getD k [] = s := ⟨_, rfl⟩
        obtain ⟨s1, hs1⟩ : ∃ s, tx (ls.getD k []) = s := ⟨_, rfl⟩
        have hnext : s1 = s2 → ∀ i, i < k + 1 → tx (ls.getD i []) = ss.getD i ByteArray.empty := fun e i hi => by
          rcases Nat.lt_succ_iff_lt_or_eq.1 hi with h | rfl
          · exact hall i h
          · rw [hs1, hs2, e]
        have HNX := Lib.hid hnext
        rw [hs1, hs2] at hcase
        rw [hs2] at hc2
        have HCASE := Lib.hid hcase
        rw [hl] at hc hbl hA hs1
        obtain ⟨m, hm⟩ : ∃ m, l.length = m := ⟨_, rfl⟩
        have hcv : ∀ N, (convert 25 9 (.slice Ak m ck)).run Tryd.prog (wr.drewN N) = .ok (.string (tx l)) (wr.drewN N) := fun N => by
          have := conv_bytes (w := wr.drewN N) (hbl.below ((hb).trans (below_drewN (Below.refl _ _) N))) (fun e => (hA e).2) ck
          rw [hm] at this
          exact this
        rw [hm] at hc
        rw [hs1] at hcv
        have hk1 : (k : Int) < n := by omega
        have hcr : wr.cell? ⟨g, o + k, none⟩ = some (.slice Ak m ck) := (hb.cell (p := ⟨g, o + k, none⟩) hg).trans hc
        have hcr2 : wr.cell? ⟨g2, o2 + k, none⟩ = some (.string s2) := (hb.cell (p := ⟨g2, o2 + k, none⟩) hg2).trans hc2
        clear hs1 hs2 hl hnext hc hc2 hbl hA hm hel hel2 hP hP2 hg hg2 hall hb hcase
        go_wp2_with fail
        go_quiet (fail)
        have HB8 := Lib.hid (HBB.out.trans ((below_drewN (Below.refl wr.heap.size wr) nq).mono HBB.out.size))
        clear hcv hcr hcr2
        generalize wr.drewN nq = W8 at *
        rcases HCASE.out with ⟨he, heq⟩ | ⟨he, heq⟩
        · have he3 : (!(s1.toList == s2.toList)) = false := by rw [he]; rfl
          have HEQ := Lib.hid heq
          clear heq
          go_wp2_with fail
          · exact absurd ((‹(!(s1.toList == s2.toList)) = true›).symm.trans he3) (by decide)
          go_roundw
          case rel =>
            exact ⟨k + 1, by omega, by go_num, HNX.out HEQ.out, HB8.out⟩
          case measure => simp [intOf]; omega
        · have he3 : (!(s1.toList == s2.toList)) = true := by rw [he]; rfl
          have E := Lib.hid (show SameEnd ls ss w (.returned (.bool false)) W8 from ⟨false, rfl, ⟨fun h => (by cases h), fun h => absurd h heq⟩, HB8.out⟩)
          clear heq
          go_wp2_with fail
          · go_ret
            exact E.out
          all_goals exact absurd ((‹(!(s1.toList == s2.toList)) = false›).symm.trans he3) (by decide)
      · have hkn : k = n := by omega
        have E := Lib.hid (show SameEnd ls ss w (.returned (.bool true)) wr from ⟨true, rfl, ⟨fun _ => by
          refine List.ext_getElem (by rw [List.length_map, HN.out, HN2.out]) fun i h1 h2 => ?_
          rw [List.length_map] at h1
          have := hall i (by rw [hkn, ← HN.out]; exact h1)
          rw [List.getD_eq_getElem?_getD, List.getD_eq_getElem?_getD, List.getElem?_eq_getElem h1, List.getElem?_eq_getElem h2] at this
          rw [List.getElem_map]
          exact this, fun _ => rfl⟩, hb⟩)
        clear hall hb
        go_wp2_with fail
        go_ret
        exact E.out
  · have hne' : ¬ (n : Int) = n2 := by omega
    have E := Lib.hid (show SameEnd ls ss w (.returned (.bool false)) w from ⟨false, rfl, ⟨fun h => (by cases h), fun h => by
      have := congrArg List.length h
      rw [List.length_map, HN.out, HN2.out] at this
      exact absurd this hne⟩, Below.refl _ _⟩)
    go_wp2_with fail
    go_ret
    exact E.out
end Go.Proofs.YtldicnhpccionaaDoor
