/-
WalDoes holds: in every script each answer, the file's bytes, and what is opened are the document's, over files of any bytes; a nil log. For every input; the table of the digest's numbers is listed and tied.
-/
import Derived.Test.YtldicnhpccionaaDoorOpn
import Derived.Test.YtldicnhpccionaaDoorOpc
import Derived.Test.YtldicnhpccionaaDoorDoes
import Derived.SevenTiedAt
namespace Go.Proofs.YtldicnhpccionaaDoor
open Go.ChangeShapes Go.WideShapes Go.ChangeAt Go.WideMaps Go.WideElems Go.RowKit
set_option linter.unusedVariables false
set_option linter.unusedSimpArgs false
theorem does_law (W : World) (v v1 : Value) (htab : Tab W) (h0 : 0 < W.heap.size) {raw : List UInt8} (hB : BytesAt W v raw) (hz : raw.length ≤ 140737488355328) (_ : True) {cs : List CallR} (hC : CallsL (fun i => i < W.heap.size) W v1 cs) (hcl : cs.length ≤ 140737488355328) (hcb : ∀ c ∈ cs, (c.b.length ≤ 140737488355328 ∧ c.ls.length ≤ 140737488355328 ∧ ∀ l ∈ c.ls, l.length ≤ 140737488355328) ∧ c.n ≤ 9223372036854775807) : Calls Tryd.prog 7 #[v, v1] W fun e w' => e = .returned (.bool true) ∧ Below W.heap.size W w' := by
  obtain ⟨A, c, rfl, h1, h2, h3⟩ := hB
  exact does_walk W A raw.length c v1 raw cs htab h0 h1 rfl hz h2 h3 hC hcl (fun c hc => (hcb c hc).1) (fun c hc => (hcb c hc).2)

theorem door_met (os : Os) (args : Array Value) : laidMetH Tryd.prog [("wapentake/sha.table", Rows.laid_wapentake_sha_table)] ((World.doorLaid Tryd.prog 14 os).forCall (fun _ _ => 0) ⟨#[], args, []⟩).memory :=
  laidMetH_of_parts3 (fuel := 8) (laidMet_of_run' 8 (by kernel_rfl) (by kernel_rfl)) (by kernel_rfl) (by kernel_rfl)
set_option maxRecDepth 100000 in
theorem walDoes_lifted (os : Os) (started : os.Started) (H : Type) (enc : TypeId × Value → H) :
    ReturnsInHanded {} Tryd.checked os 7 .any (fun w args => (Rows.walDoesSpec.pre enc Tryd.prog Tryd.f7 [] false w args ∧ laidMetH Tryd.prog [("wapentake/sha.table", Rows.laid_wapentake_sha_table)] w) ∧ sizedMet enc Tryd.prog Tryd.f7 (OpenSpec.ofChange Rows.walDoesSpec) false w args)
      (Rows.walDoesSpec.post enc Tryd.prog Tryd.f7 false true false false) := by
  refine returnsInHanded_of_change_and (C := Tryd.checked) (X := fun w _ => laidMetH Tryd.prog [("wapentake/sha.table", Rows.laid_wapentake_sha_table)] w) (fun _ _ _ hh h => h.of_heap hh) own started (by kernel_rfl) Tryd.func7
    (ChangeSpec.witness_shaped (enc := enc) (C := Tryd.checked) (os := os) (X := fun w _ => laidMetH Tryd.prog [("wapentake/sha.table", Rows.laid_wapentake_sha_table)] w) false (World.doorLaid Tryd.prog 14 os) #[.slice none 0 0, .slice none 0 0] 8 rfl (World.shaped_of_RefB (by kernel_rfl) (by kernel_rfl)) (by kernel_rfl) (by kernel_rfl) (by kernel_rfl) (door_met os _)) ?_
  intro W base args ds gs before hval0 hW _ hsz0 hL _
  have hval : ∀ (j : Nat) t v, Tryd.f7.params[j]? = some t → args[j]? = some v → Value.okWide Tryd.prog W .any base t v := hval0
  have hW' := hW
  obtain ⟨p, q, hA0, hV, rfl, hfz, hnd⟩ := hW
  have hA : DataW.TrodAll enc Tryd.prog W 0 (fun _ => true) true Tryd.f7.params.toList args.toList ds p := hA0
  have hsz : (DataW.weightsEach Tryd.prog (Tryd.f7.params.toList ++ []) (ds ++ gs)).all (· ≤ reachBytes) = true := hsz0
  rw [Tryd.params7] at hA hval hsz
  obtain ⟨v0, vs0, d0, ds0, p0, q0, hargs, rfl, rfl, h0, r0⟩ := trodAll_cons hA
  obtain ⟨v1, vs1, d1, ds1, p1, q1, rfl, rfl, rfl, h1, r1⟩ := trodAll_cons r0
  obtain ⟨rfl, rfl, rfl⟩ := trodAll_nil r1
  obtain rfl : args = #[v0, v1] := by cases args; simp_all
  obtain ⟨rfl, rfl⟩ := trodVars_none hV
  have hwt : ∀ (j : Nat) t d, ([25, 28] : List TypeId)[j]? = some t → ([d0, d1] : List (DataW H))[j]? = some d → ∀ x ∈ d.weights Tryd.prog t, x ≤ reachBytes := fun j t d ht hd x hx => by
    simpa using List.all_eq_true.1 hsz _ (DataW.weights_mem_each (j := j) (by simpa using ht) (by simpa using hd) x hx)
  obtain ⟨htab, hpos⟩ := of_laid hL
  have k0 := h0
  have lt0 : ∀ x ∈ p0, x.block < W.heap.size := by obtain ⟨m, hm⟩ := k0; exact DataW.trod_lt m _ _ _ hm
  obtain ⟨ls0, l0, g0, e0⟩ := open_bytes (hval 0 25 v0 rfl rfl) h0 (hwt 0 _ _ rfl rfl)
  have k1 := h1
  have lt1 : ∀ x ∈ p1, x.block < W.heap.size := by obtain ⟨m, hm⟩ := k1; exact DataW.trod_lt m _ _ _ hm
  obtain ⟨ls1, l1, g1, e1⟩ := open_calls (hval 1 28 v1 rfl rfl) h1 (hwt 1 _ _ rfl rfl)
  clear hA0 hval0
  refine (does_law W v0 v1 htab hpos l0 g0 e0 l1 g1 e1).mono fun e W' ⟨he, bel⟩ => ?_
  subst he
  exact ⟨_, rfl, _, _, _, [], _, [], hW', trodAll_mk1 (shut_bool Tryd.underlying4 _), (trodAll_cons_mk (Below.trod laidOut (by kernel_rfl) (of_decide_eq_true (by kernel_rfl)) k0 bel lt0) (trodAll_cons_mk (Below.trod laidOut (by kernel_rfl) (of_decide_eq_true (by kernel_rfl)) k1 bel lt1) trodAll_mk0)), rfl, bel.frame _, fun h => by cases h⟩

theorem walDoes_row : Rows.WalDoesSaid :=
  OpenClaim.holds_of_wide 7 Tryd.f7 rfl rfl rfl rfl rfl rfl rfl ⟨rfl, rfl, rfl, rfl, rfl⟩ rfl rfl rfl rfl rfl (by kernel_rfl) Tryd.func7 (by kernel_rfl)
    (of_decide_eq_true (by kernel_rfl)) (by unfold Func.isWrapper; first | (rw [if_pos (by decide +kernel)]; kernel_rfl) | (rw [if_neg (by decide +kernel)]; exact ⟨rfl, rfl⟩))
    (fun os started H enc _ => walDoes_lifted os started H enc)
theorem walDoes_holds : Rows.WalDoesCardSaid :=
  Claim7.holds_tied_plain_at .later [] [.data] true (true, "143ca8ca9768c66f8dff03c43cc395a529bbf67352310ca9afbf194d97329c71") false
    walDoes_row (fun _ h => by cases h) (by kernel_rfl) (fun _ h => by cases h) walDoes_row_tie rfl ⟨rfl, rfl⟩ (by kernel_rfl) rfl
    (fun f fn hf hfn => by
      obtain rfl : f = 7 := Option.some.inj ((show Tryd.prog.funcNamed "wapentake/wapentakelaw17.WalDoes" = some 7 by kernel_rfl).symm.trans hf) |>.symm
      obtain rfl : fn = Tryd.f7 := (Option.some.inj (Tryd.func7.symm.trans hfn)).symm
      exact ⟨by kernel_rfl, fun j t ht => by
        rw [Tryd.params7] at ht
        have hm : t ∈ [25, 28] := by simpa using Array.mem_of_getElem? ht
        have hall : ([25, 28].all fun u => !Tryd.prog.wantsStandIn u) = true := by kernel_rfl
        exact (show Tryd.prog.wantsStandIn t = false by simpa using List.all_eq_true.1 hall t hm)⟩)
    (by kernel_rfl)
#print axioms walDoes_holds

end Go.Proofs.YtldicnhpccionaaDoor
