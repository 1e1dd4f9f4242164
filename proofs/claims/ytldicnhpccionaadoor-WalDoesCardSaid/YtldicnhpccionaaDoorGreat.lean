/-
Calls in memory; whether they are more than is played.
-/
import Derived.Test.YtldicnhpccionaaDoorLoses
namespace Go.Proofs.YtldicnhpccionaaDoor
open Go.RowKit
set_option linter.unusedVariables false
set_option linter.unusedSimpArgs false
/-- a call, as it came in -/
structure CallR where
  kind : Int
  n : Int
  k : Int
  ls : List (List UInt8)
  b : List UInt8
instance callR_some : Inhabited CallR := ⟨⟨0, 0, 0, [], []⟩⟩
/-- .. in memory, in five cells -/
structure CallAt (P : Nat → Prop) (w : World) (g o : Nat) (c : CallR) : Prop where
  ex : ∃ vL A cap, rowAt w g o 5 = some #[.int .i64 c.kind, vL, .int .i64 c.n, .int .i64 c.k, .slice A c.b.length cap] ∧ Lst P w vL c.ls ∧ BL w A c.b ∧ (A = none → cap = 0 ∧ c.b = []) ∧ (∀ b o, A = some ⟨b, o, none⟩ → 0 < c.b.length → P b)
structure CallsL (P : Nat → Prop) (w : World) (v : Value) (cs : List CallR) : Prop where
  ex : ∃ A cap, v = .slice A cs.length cap ∧ (0 < cs.length → ∃ g o, A = some ⟨g, o, none⟩ ∧ g < w.heap.size ∧ P g ∧ ∀ i, i < cs.length → CallAt P w g (o + i * 5) (cs.getD i default))
theorem CallAt.below {P : Nat → Prop} {w w' : World} {g o : Nat} {c : CallR} (h : CallAt P w g o c) (hb : Below w.heap.size w w') (hg : g < w.heap.size) : CallAt P w' g o c := by
  obtain ⟨vL, A, cap, h1, h2, h3, h4, h5⟩ := h.ex
  exact ⟨⟨vL, A, cap, (rowAt_below hb hg o 5).trans h1, h2.below hb, h3.below hb, h4, h5⟩⟩
theorem CallsL.below {P : Nat → Prop} {w w' : World} {v : Value} {cs : List CallR} (h : CallsL P w v cs) (hb : Below w.heap.size w w') : CallsL P w' v cs := by
  obtain ⟨A, cap, hv, he⟩ := h.ex
  refine ⟨⟨A, cap, hv, fun h0 => ?_⟩⟩
  obtain ⟨g, o, hA, hg, hP, hc⟩ := he h0
  exact ⟨g, o, hA, Nat.lt_of_lt_of_le hg hb.size, hP, fun i hi => (hc i hi).below hb hg⟩
@[go_sem ↓] theorem lv_Call (a : Addr) : loadVar 27 a = ldVar 27 a := rfl
@[go_sem] theorem run_lv_Call (w : World) (b o : Nat) : (ldVar 27 ⟨b, o, none⟩).run Tryd.prog w = match rowAt w b o 5 with | some cs => .ok (.agg cs) w | none => (ldRaw 27 ⟨b, o, none⟩).run Tryd.prog w :=
  run_ldVar w 27 b o 5 _ Tryd.underlying27 rfl (by kernel_rfl)
@[go_sem ↓] theorem sv_Call (a : Addr) (v : Value) : storeVar 27 a v = stVar 27 a v := rfl
@[go_sem] theorem run_sv_Call (w : World) (b : Nat) (cs : Array Value) : (stVar 27 ⟨b, 0, none⟩ (.agg cs)).run Tryd.prog w = match putRow w b 5 cs with | some w' => .ok () w' | none => (stRaw 27 ⟨b, 0, none⟩ (.agg cs)).run Tryd.prog w :=
  run_stVar w 27 b 5 cs (by kernel_rfl)
/-- how much there is -/
def callsSize (cs : List CallR) : Nat := (cs.map fun c => c.b.length + lens c.ls).sum
theorem callsSize_take {cs : List CallR} {k : Nat} (h : k < cs.length) : callsSize (cs.take (k + 1)) = callsSize (cs.take k) + ((cs.getD k default).b.length + lens (cs.getD k default).ls) := by
  unfold callsSize
  rw [List.take_succ_eq_append_getElem h, List.map_append, List.sum_append, List.getD_eq_getElem?_getD, List.getElem?_eq_getElem h]
  simp
/-- what great answers: no, only of what is small -/
def GreatEnd (cs : List CallR) (w : World) (e : Ending) (w' : World) : Prop := ∃ b, e = .returned (.bool b) ∧ Below w.heap.size w w' ∧ (b = false → cs.length ≤ 40 ∧ callsSize cs ≤ 8192 ∧ ∀ c ∈ cs, c.ls.length ≤ 20)
set_option maxRecDepth 100000 in
set_option maxHeartbeats 1000000 in
theorem great_any {P : Nat → Prop} (v : Value) (cs : List CallR) (w : World) (hC : CallsL P w v cs) (hn : cs.length ≤ 140737488355328) (hl : ∀ c ∈ cs, c.b.length ≤ 140737488355328 ∧ c.ls.length ≤ 140737488355328 ∧ ∀ l ∈ c.ls, l.length ≤ 140737488355328) : Calls Tryd.prog 9 #[v] w (GreatEnd cs w) := by
  obtain ⟨A, cap, rfl, hel⟩ := hC.ex
  obtain ⟨m, hm⟩ : ∃ m, cs.length = m := ⟨_, rfl⟩
  have HEL := Lib.hid hel
  have HM := Lib.hid hm
  have HLL := Lib.hid hl
  have hmi : (m : Int) ≤ 140737488355328 := by omega
  have hmi0 : (0 : Int) ≤ m := by omega
  rw [hm]
  clear hC hel hm hl hn
  go_enter Tryd.func9, Tryd.ntmps9
  go_wp2_with fail
  go_loopw [3, 10] (fun s t wr => ∃ k : Nat, k ≤ m ∧ t = .int .i64 k ∧ s = .int .i64 (callsSize (cs.take k) : Nat) ∧ callsSize (cs.take k) ≤ 8192 ∧ (∀ c ∈ cs.take k, c.ls.length ≤ 20) ∧ Below w.heap.size w wr) (fun _ t _ => m - (intOf t).toNat)
  case atStart => exact ⟨0, Nat.zero_le _, rfl, rfl, by simp [callsSize], by simp, Below.refl _ _⟩
  case round =>
    obtain ⟨k, hk, rfl, rfl, hle, h20, hb⟩ := hrel
    have hk0 : (0 : Int) ≤ k := by omega
    have H20 := Lib.hid h20
    have HB := Lib.hid hb
    clear h20 hb
    by_cases hlt : k < m
    · obtain ⟨g, o, rfl, hg, hP, hel⟩ := HEL.out (by have := HM.out; omega)
      have hlk : k < cs.length := by have := HM.out; omega
      have hca := (hel k hlk).below HB.out hg
      have hmem : cs.getD k default ∈ cs := by rw [List.getD_eq_getElem?_getD, List.getElem?_eq_getElem hlk]; exact List.getElem_mem hlk
      have htk := callsSize_take hlk
      have h20' : (cs.getD k default).ls.length ≤ 20 → ∀ c ∈ cs.take (k + 1), c.ls.length ≤ 20 := fun h c hc => by
        rw [List.take_succ_eq_append_getElem hlk] at hc
        rcases List.mem_append.1 hc with hc | hc
        · exact H20.out c hc
        · rw [List.mem_singleton] at hc
          rw [List.getD_eq_getElem?_getD, List.getElem?_eq_getElem hlk] at h
          rw [hc]; exact h
      obtain ⟨l1, l2, l3⟩ := HLL.out _ hmem
      generalize cs.getD k default = c at hca hmem htk h20' l1 l2 l3
      obtain ⟨vL, Ab, cb, hrow, hlst, -⟩ := hca.ex
      obtain ⟨AL, capL, rfl, -, hell⟩ := hlst.ex
      obtain ⟨q, hq⟩ : ∃ q, c.ls.length = q := ⟨_, rfl⟩
      obtain ⟨z, hz⟩ : ∃ z, c.b.length = z := ⟨_, rfl⟩
      obtain ⟨σ, hσ⟩ : ∃ σ, callsSize (cs.take k) = σ := ⟨_, rfl⟩
      rw [hσ] at hle htk ⊢
      have hk1 : (k : Int) < m := by omega
      have hs0 : (0 : Int) ≤ σ := by omega
      have hs1 : (σ : Int) ≤ 8192 := by omega
      have hz0 : (0 : Int) ≤ z := by omega
      have hz1 : (z : Int) ≤ 140737488355328 := by omega
      have hq0 : (0 : Int) ≤ q := by omega
      have hq1 : (q : Int) ≤ 140737488355328 := by omega
      rw [hq, hz] at hrow
      have hba := alloc_below wr (.cells #[.int .i64 c.kind, .slice AL q capL, .int .i64 c.n, .int .i64 c.k, .slice Ab z cb] 27)
      have HBA := Lib.hid (HB.out.trans (hba.mono HB.out.size))
      have HELL := Lib.hid hell
      have HTK := Lib.hid htk
      have H20' := Lib.hid h20'
      have HL3 := Lib.hid l3
      have hsz : SizeIs #[.int .i64 c.kind, .slice AL q capL, .int .i64 c.n, .int .i64 c.k, .slice Ab z cb] 5 := rfl
      have hone : oneCells #[.int .i64 c.kind, .slice AL q capL, .int .i64 c.n, .int .i64 c.k, .slice Ab z cb] = true := by simp [oneCells, Value.oneCell']
      clear hca hlst hell htk h20' l1 l2 l3 hσ hle hba hel hP hg hmem
      by_cases h21 : 20 < q
      · have g21 : (20 : Int) < q := by omega
        have E := Lib.hid (show GreatEnd cs w (.returned (.bool true)) (wr.alloc (.cells #[.int .i64 c.kind, .slice AL q capL, .int .i64 c.n, .int .i64 c.k, .slice Ab z cb] 27)) from ⟨true, rfl, HBA.out, fun h => (by cases h)⟩)
        go_wp2_with fail
        go_ret
        exact E.out
      · have g21 : ¬ (20 : Int) < q := by omega
        go_wp2_with fail
        go_loop [3, 26] (fun s t => ∃ j : Nat, j ≤ q ∧ t = .int .i64 j ∧ s = .int .i64 (σ + z + lens (c.ls.take j) : Nat) ∧ lens (c.ls.take j) ≤ j * 140737488355328) (fun _ t => q - (intOf t).toNat)
        case atStart => exact ⟨0, Nat.zero_le _, rfl, by simp [lens], by simp [lens]⟩
        case round =>
          obtain ⟨j, hj, rfl, rfl, hbd⟩ := hrel
          have hj0 : (0 : Int) ≤ j := by omega
          by_cases hltj : j < q
          · obtain ⟨gl, ol, rfl, hgl, -, helj⟩ := HELL.out (by omega)
            have hlj : j < c.ls.length := by omega
            obtain ⟨Aj, cj, hcj, -⟩ := (helj j hlj).ex
            have hmemj : c.ls.getD j [] ∈ c.ls := by rw [List.getD_eq_getElem?_getD, List.getElem?_eq_getElem hlj]; exact List.getElem_mem hlj
            have hl3 := HL3.out _ hmemj
            have htj := lens_take hlj
            generalize c.ls.getD j [] = lj at hcj hmemj hl3 htj
            obtain ⟨y, hy⟩ : ∃ y, lj.length = y := ⟨_, rfl⟩
            obtain ⟨τ, hτ⟩ : ∃ τ, lens (c.ls.take j) = τ := ⟨_, rfl⟩
            rw [hy] at hcj hl3 htj
            rw [hτ] at hbd htj ⊢
            have hcw : (wr.alloc (.cells #[.int .i64 c.kind, .slice (some ⟨gl, ol, none⟩) q capL, .int .i64 c.n, .int .i64 c.k, .slice Ab z cb] 27)).cell? ⟨gl, ol + j, none⟩ = some (.slice Aj y cj) := ((alloc_below wr _).cell (p := ⟨gl, ol + j, none⟩) hgl).trans hcj
            have HTJ := Lib.hid htj
            have HBD := Lib.hid hbd
            have HL4 := Lib.hid hl3
            have hj1 : (j : Int) < q := by omega
            have b1 : (0 : Int) ≤ (σ + z + τ : Nat) := by omega
            have b2 : ((σ + z + τ : Nat) : Int) ≤ 3000000000000000 := by omega
            have b3 : (0 : Int) ≤ y := by omega
            have b4 : (y : Int) ≤ 140737488355328 := by omega
            generalize hu : σ + z + τ = u at b1 b2 ⊢
            clear hcj hmemj hl3 htj hbd hy hτ helj
            go_wp2_with fail
            go_round
            case rel =>
              refine ⟨j + 1, by omega, by go_num, ?_, ?_⟩
              · rw [HTJ.out, ← hu]; go_num
              · rw [HTJ.out]; have := HBD.out; have := HL4.out; omega
            case measure => simp [intOf]; omega
          · have hjq : j = q := by omega
            subst hjq
            have hlj : lens (c.ls.take j) = lens c.ls := by rw [List.take_of_length_le (by omega)]
            rw [hlj] at hbd ⊢
            have HTK2 := Lib.hid (show callsSize (cs.take (k + 1)) = σ + z + lens c.ls by rw [HTK.out, hz]; omega)
            have b1 : (0 : Int) ≤ (σ + z + lens c.ls : Nat) := by omega
            have b2 : ((σ + z + lens c.ls : Nat) : Int) ≤ 3000000000000000 := by omega
            generalize σ + z + lens c.ls = u at b1 b2 HTK2 ⊢
            clear hbd hlj
            by_cases hbig : 8192 < u
            · have b3 : (8192 : Int) < u := by omega
              have E := Lib.hid (show GreatEnd cs w (.returned (.bool true)) (wr.alloc (.cells #[.int .i64 c.kind, .slice AL j capL, .int .i64 c.n, .int .i64 c.k, .slice Ab z cb] 27)) from ⟨true, rfl, HBA.out, fun h => (by cases h)⟩)
              go_wp2_with fail
              go_ret
              exact E.out
            · have b3 : ¬ (8192 : Int) < u := by omega
              go_wp2_with fail
              go_roundw
              case rel => exact ⟨k + 1, by omega, by go_num, by rw [HTK2.out], by rw [HTK2.out]; omega, H20'.out (by omega), HBA.out⟩
              case measure => simp [intOf]; omega
    · have hkm : k = m := by omega
      have hk1 : ¬ (k : Int) < m := by omega
      rw [show cs.take k = cs by rw [hkm, ← HM.out, List.take_length]] at hle H20 ⊢
      by_cases h40 : 40 < m
      · have g40 : (40 : Int) < m := by omega
        go_wp2_with fail
        go_ret
        exact ⟨_, rfl, HB.out, fun h => by simp at h⟩
      · have g40 : ¬ (40 : Int) < m := by omega
        have E := Lib.hid (show GreatEnd cs w (.returned (.bool false)) wr from ⟨false, rfl, HB.out, fun _ => ⟨by rw [HM.out]; omega, hle, H20.out⟩⟩)
        go_wp2_with fail
        go_ret
        exact E.out
end Go.Proofs.YtldicnhpccionaaDoor
