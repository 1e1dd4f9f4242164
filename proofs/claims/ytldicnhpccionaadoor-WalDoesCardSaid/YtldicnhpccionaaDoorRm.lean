/-
The reference's disk: appending, syncing, installing.
-/
import Derived.Test.YtldicnhpccionaaDoorRl
namespace Go.Proofs.YtldicnhpccionaaDoor
open Go.RowKit
set_option linter.unusedVariables false
set_option linter.unusedSimpArgs false
theorem Rk.below {mb : Nat} {down : Bool} {acts fuse keep : Int} {fo : Option (List UInt8 × List UInt8)} {v : Value} {w w' : World} (h : Rk mb down acts fuse keep fo v w) (b : Below w.heap.size w w') : Rk mb down acts fuse keep fo v w' :=
  h.mv (Mv.of_below (fp := fun _ => False) b) (fun c => c) (fun _ _ c => c)
/-- what an operation of the reference leaves -/
def RkEnd (mb : Nat) (v : Value) (down : Bool) (acts fuse keep : Int) (fo : Option (List UInt8 × List UInt8)) (c : Int) (w : World) (e : Ending) (w' : World) : Prop :=
  e = .returned (.int .i64 c) ∧ Mv (rkFp mb v) w w' ∧ ∃ v', Rk mb down acts fuse keep fo v' w' ∧ ∀ i, rkFp mb v' i → rkFp mb v i ∨ w.heap.size ≤ i
section
variable {mb : Nat} {down : Bool} {acts fuse keep : Int} {fo : Option (List UInt8 × List UInt8)} {v : Value}
def tickF (fuse : Int) : Int := if 0 < fuse then fuse - 1 else fuse
set_option maxRecDepth 100000 in
set_option maxHeartbeats 1000000 in
theorem rappend_any (b : List UInt8) (w : World) (h : Rk mb false acts fuse keep fo v w) (ha : 0 ≤ acts) (ha2 : acts ≤ 1000000) (hf : 0 ≤ fuse) (hf2 : fuse ≤ 9223372036854775807) (hl : foLen fo + b.length ≤ 1000000) :
    Calls Tryd.prog 25 #[.pointer (some ⟨mb, 0, none⟩), .string nmLog, .string (tx b)] w
      (if fuse = 1 then RkEnd mb v true (acts + 1) 0 keep (loseF keep (some ((foS fo).1, (foS fo).2 ++ b))) 21 w else RkEnd mb v false (acts + 1) (tickF fuse) keep (some ((foS fo).1, (foS fo).2 ++ b)) 0 w) := by
  have c1 : w.cell? ⟨mb, 1, none⟩ = some (.bool false) := cell_at h.cells rfl
  have hsb : (tx b).size = b.length := rfl
  have H := Lib.hid h
  obtain ⟨nb, hnb⟩ : ∃ n, b.length = n := ⟨_, rfl⟩
  obtain ⟨tb, htb⟩ : ∃ t, tx b = t := ⟨_, rfl⟩
  rw [htb] at hsb ⊢
  rw [hnb] at hsb hl
  have HTB := Lib.hid htb
  obtain ⟨N, hN⟩ : ∃ N, nmLog = N := ⟨_, rfl⟩
  have HN := Lib.hid hN
  rw [hN]
  clear h htb hN
  go_enter Tryd.func25, Tryd.ntmps25
  go_wp2_with fail
  refine (rsize_any w H.out (by omega)).mono ?_
  rintro e w1 ⟨rfl, b1⟩
  have H1 := Lib.hid (And.intro (H.out.below b1) b1)
  obtain ⟨fl, hfl⟩ : ∃ n, foLen fo = n := ⟨_, rfl⟩
  have HFL := Lib.hid hfl
  rw [hfl] at hl ⊢
  have hfl0 : (fl : Int) + nb ≤ 1000000 := by omega
  have hfl1 : (0 : Int) ≤ fl := by omega
  have hfl2 : (0 : Int) ≤ nb := by omega
  have hact := Lib.hid (ract_any w1 H1.out.1 ha ha2 hf hf2)
  clear hfl hl b1 c1
  go_wp2_with fail
  refine hact.out.mono ?_
  rintro e w2 ⟨rfl, h2, m2⟩
  have H2 := Lib.hid (And.intro h2 m2)
  have hget := rget_any w2 h2
  have hfv : fileV (foS fo) = .agg #[.string nmLog, .string (tx ((foS fo).1 ++ (foS fo).2)), .int .i64 ((foS fo).1.length : Nat)] := rfl
  rw [hfv, HN.out] at hget
  obtain ⟨x, hx⟩ : ∃ x, foS fo = x := ⟨_, rfl⟩
  rw [hx] at hget
  have HX := Lib.hid hx
  have htn := tx_app (x.1 ++ x.2) b
  rw [HTB.out] at htn
  have hlf : foLen fo = (x.1 ++ x.2).length := by rw [← hx]; cases fo <;> rfl
  have hst : (tx (x.1 ++ x.2)).size = fl := by rw [tx_size, ← hlf, HFL.out]
  obtain ⟨t, ht⟩ : ∃ t, tx (x.1 ++ x.2) = t := ⟨_, rfl⟩
  obtain ⟨s, hs⟩ : ∃ t, x.1.length = t := ⟨_, rfl⟩
  rw [ht, hs] at hget
  rw [ht] at hst htn
  have HGET := Lib.hid hget
  have HTN := Lib.hid htn
  have HS := Lib.hid hs
  have hsz3 : SizeIs #[.string N, .string t, .int .i64 (s : Int)] 3 := rfl
  have hone : oneCells #[.string N, .string t, .int .i64 (s : Int)] = true := by simp [oneCells, Value.oneCell']
  clear h2 m2 hact hget hx hlf ht hs hfv htn
  go_wp2_with fail
  refine HGET.out.mono ?_
  rintro e w3 ⟨rfl, b3⟩
  have H3 := Lib.hid (And.intro (H2.out.1.below b3) b3)
  have b4 := alloc_below w3 (.cells #[.string N, .string (t ++ tb), .int .i64 (s : Int)] 86)
  have rx : rowAt (w3.alloc (.cells #[.string N, .string (t ++ tb), .int .i64 (s : Int)] 86)) w3.heap.size 0 3 = some #[.string N, .string (t ++ tb), .int .i64 (s : Int)] := by rw [rowAt_alloc_at _ _ _ _ _ _ rfl]; rfl
  have hput := rput_any (x.1, x.2 ++ b) _ (H3.out.1.below b4)
  have hfp : fileV (x.1, x.2 ++ b) = .agg #[.string N, .string (t ++ tb), .int .i64 (s : Int)] := by
    show Value.agg #[.string nmLog, .string (tx (x.1 ++ (x.2 ++ b))), .int .i64 (x.1.length : Nat)] = _
    rw [HN.out, HS.out, HTN.out, List.append_assoc]
  rw [hfp] at hput
  have HPUT := Lib.hid hput
  have B4 := Lib.hid b4
  clear b3 b4 hput hfp
  go_wp2_with fail
  refine HPUT.out.mono ?_
  rintro e w5 ⟨he, m5, v5, r5, o5⟩
  subst he
  have m15 : Mv (rkFp mb v) w w5 := ((((Mv.of_below H1.out.2).trans (fq := rkFp mb v) (H2.out.2.mono (fun _ _ e => .inl e)) (fun _ _ c => c)).trans (fq := rkFp mb v) (Mv.of_below H3.out.2) (fun _ _ c => c)).trans (fq := rkFp mb v) (Mv.of_below B4.out) (fun _ _ c => c)).trans (fq := rkFp mb v) (m5.mono (fun _ _ e => .inl e)) (fun _ _ c => c)
  have hsz : w.heap.size ≤ (w3.alloc (.cells #[.string N, .string (t ++ tb), .int .i64 (s : Int)] 86)).heap.size := Nat.le_trans H1.out.2.size (Nat.le_trans H2.out.2.size (Nat.le_trans H3.out.2.size B4.out.size))
  have o15 : ∀ i, rkFp mb v5 i → rkFp mb v i ∨ w.heap.size ≤ i := fun i hi => hi.elim (fun e => .inl (.inl e)) (fun e => .inr (Nat.le_trans hsz (o5 i e)))
  have c4 : w5.cell? ⟨mb, 4, none⟩ = some (.int .i64 keep) := cell_at r5.cells rfl
  have HE := Lib.hid (And.intro r5 (And.intro m15 o15))
  clear hsz m5 r5 o5 m15 o15 HPUT rx
  by_cases h1 : fuse = 1
  · subst h1
    have hlo := rlose_any keep w5 HE.out.1 (by have := HFL.out; have h2 : foLen (some (x.1, x.2 ++ b)) = foLen fo + b.length := by { show (x.1 ++ (x.2 ++ b)).length = _; rw [← List.append_assoc, List.length_append, ← HX.out]; cases fo <;> rfl }; rw [h2, HFL.out, hnb]; omega)
    have HLO := Lib.hid hlo
    clear hlo
    go_wp2_with fail
    refine HLO.out.mono ?_
    rintro e w6 ⟨he, r6, m6⟩
    subst he
    have E : RkEnd mb v true (acts + 1) 0 keep (loseF keep (some ((foS fo).1, (foS fo).2 ++ b))) 21 w (.returned (.int .i64 21)) w6 := ⟨rfl, HE.out.2.1.trans (fq := rkFp mb v5) m6 (fun i hi hq => (HE.out.2.2 i hq).elim id (fun c => absurd c (by omega))), v5, by rw [HX.out]; exact r6, HE.out.2.2⟩
    have E := Lib.hid E
    clear r6 m6
    go_wp2_with fail
    go_ret
    exact E.out
  · have h1b : decide (fuse = 1) = false := decide_eq_false h1
    have E : RkEnd mb v false (acts + 1) (tickF fuse) keep (some ((foS fo).1, (foS fo).2 ++ b)) 0 w (.returned (.int .i64 0)) w5 := ⟨rfl, HE.out.2.1, v5, by rw [HX.out]; exact HE.out.1, HE.out.2.2⟩
    have E := Lib.hid E
    go_wp2_with fail
    go_ret
    exact E.out
set_option maxRecDepth 100000 in
set_option maxHeartbeats 1000000 in
theorem rsync_any (w : World) (h : Rk mb false acts fuse keep fo v w) (ha : 0 ≤ acts) (ha2 : acts ≤ 1000000) (hf : 0 ≤ fuse) (hf2 : fuse ≤ 9223372036854775807) (hl : foLen fo ≤ 1000000) :
    Calls Tryd.prog 27 #[.pointer (some ⟨mb, 0, none⟩), .string nmLog] w
      (if fuse = 1 then RkEnd mb v true (acts + 1) 0 keep (loseF keep fo) 21 w else RkEnd mb v false (acts + 1) (tickF fuse) keep (some ((foS fo).1 ++ (foS fo).2, [])) 0 w) := by
  have c1 : w.cell? ⟨mb, 1, none⟩ = some (.bool false) := cell_at h.cells rfl
  have hact := Lib.hid (ract_any w h ha ha2 hf hf2)
  obtain ⟨N, hN⟩ : ∃ N, nmLog = N := ⟨_, rfl⟩
  have HN := Lib.hid hN
  have HL := Lib.hid hl
  have HFO := Lib.hid (show ∀ i, rkFp mb v i → i < w.heap.size from fun i hi => hi.elim (fun e => e ▸ h.lt) (fun e => (h.file.ne e).2))
  rw [hN]
  clear h hN hl
  by_cases h1 : fuse = 1
  · subst h1
    rw [if_pos rfl]
    go_enter Tryd.func27, Tryd.ntmps27
    go_wp2_with fail
    refine hact.out.mono ?_
    rintro e w2 ⟨rfl, h2, m2⟩
    have c4 : w2.cell? ⟨mb, 4, none⟩ = some (.int .i64 keep) := cell_at h2.cells rfl
    have HLO := Lib.hid (rlose_any keep w2 h2 HL.out)
    have M2 := Lib.hid m2
    clear h2 m2 hact c1
    go_wp2_with fail
    refine HLO.out.mono ?_
    rintro e w6 ⟨he, r6, m6⟩
    subst he
    have E : RkEnd mb v true (acts + 1) 0 keep (loseF keep fo) 21 w (.returned (.int .i64 21)) w6 := ⟨rfl, (M2.out.mono (fun _ _ e => .inl e)).trans (fq := rkFp mb v) m6 (fun _ _ c => c), v, r6, fun i hi => .inl hi⟩
    have E := Lib.hid E
    clear r6 m6
    go_wp2_with fail
    go_ret
    exact E.out
  · rw [if_neg h1]
    have h1b : decide (fuse = 1) = false := decide_eq_false h1
    go_enter Tryd.func27, Tryd.ntmps27
    go_wp2_with fail
    refine hact.out.mono ?_
    rintro e w2 ⟨rfl, h2, m2⟩
    have H2 := Lib.hid (And.intro h2 m2)
    have hget := rget_any w2 h2
    have hfv : fileV (foS fo) = .agg #[.string nmLog, .string (tx ((foS fo).1 ++ (foS fo).2)), .int .i64 ((foS fo).1.length : Nat)] := rfl
    rw [hfv, HN.out] at hget
    obtain ⟨x, hx⟩ : ∃ x, foS fo = x := ⟨_, rfl⟩
    rw [hx] at hget
    have HX := Lib.hid hx
    have hlf : foLen fo = (x.1 ++ x.2).length := by rw [← hx]; cases fo <;> rfl
    obtain ⟨n, hn⟩ : ∃ n, (x.1 ++ x.2).length = n := ⟨_, rfl⟩
    have hst : (tx (x.1 ++ x.2)).size = n := hn
    have hn1 : (n : Int) ≤ 1000000 := by have := HL.out; omega
    have hn0 : (0 : Int) ≤ n := by omega
    have HNN := Lib.hid hn
    obtain ⟨t, ht⟩ : ∃ t, tx (x.1 ++ x.2) = t := ⟨_, rfl⟩
    obtain ⟨s, hs⟩ : ∃ t, x.1.length = t := ⟨_, rfl⟩
    rw [ht, hs] at hget
    rw [ht] at hst
    have HGET := Lib.hid hget
    have HTT := Lib.hid ht
    have hsz3 : SizeIs #[.string N, .string t, .int .i64 (s : Int)] 3 := rfl
    have hone : oneCells #[.string N, .string t, .int .i64 (s : Int)] = true := by simp [oneCells, Value.oneCell']
    clear h2 m2 hact hget hx hlf ht hs hfv hn c1
    go_wp2_with fail
    refine HGET.out.mono ?_
    rintro e w3 ⟨rfl, b3⟩
    have H3 := Lib.hid (And.intro (H2.out.1.below b3) b3)
    have b4 := alloc_below w3 (.cells #[.string N, .string t, .int .i64 (n : Int)] 86)
    have rx : rowAt (w3.alloc (.cells #[.string N, .string t, .int .i64 (n : Int)] 86)) w3.heap.size 0 3 = some #[.string N, .string t, .int .i64 (n : Int)] := by rw [rowAt_alloc_at _ _ _ _ _ _ rfl]; rfl
    have hput := rput_any (x.1 ++ x.2, []) _ (H3.out.1.below b4)
    have hfp : fileV (x.1 ++ x.2, []) = .agg #[.string N, .string t, .int .i64 (n : Int)] := by
      show Value.agg #[.string nmLog, .string (tx ((x.1 ++ x.2) ++ [])), .int .i64 ((x.1 ++ x.2).length : Nat)] = _
      rw [HN.out, HNN.out, List.append_nil, HTT.out]
    rw [hfp] at hput
    have HPUT := Lib.hid hput
    have B4 := Lib.hid b4
    clear b3 b4 hput hfp
    go_wp2_with fail
    refine HPUT.out.mono ?_
    rintro e w5 ⟨he, m5, v5, r5, o5⟩
    subst he
    have m15 : Mv (rkFp mb v) w w5 := (((H2.out.2.mono (fun _ _ e => .inl e)).trans (fq := rkFp mb v) (Mv.of_below H3.out.2) (fun _ _ c => c)).trans (fq := rkFp mb v) (Mv.of_below B4.out) (fun _ _ c => c)).trans (fq := rkFp mb v) (m5.mono (fun _ _ e => .inl e)) (fun _ _ c => c)
    have hsz : w.heap.size ≤ (w3.alloc (.cells #[.string N, .string t, .int .i64 (n : Int)] 86)).heap.size := Nat.le_trans H2.out.2.size (Nat.le_trans H3.out.2.size B4.out.size)
    have o15 : ∀ i, rkFp mb v5 i → rkFp mb v i ∨ w.heap.size ≤ i := fun i hi => hi.elim (fun e => .inl (.inl e)) (fun e => .inr (Nat.le_trans hsz (o5 i e)))
    have E : RkEnd mb v false (acts + 1) (tickF fuse) keep (some ((foS fo).1 ++ (foS fo).2, [])) 0 w (.returned (.int .i64 0)) w5 := ⟨rfl, m15, v5, by rw [HX.out]; exact r5, o15⟩
    have E := Lib.hid E
    clear hsz m5 r5 o5 m15 o15 HPUT rx
    go_wp2_with fail
    go_ret
    exact E.out
set_option maxRecDepth 100000 in
set_option maxHeartbeats 1000000 in
theorem rinstall_any (b : List UInt8) (w : World) (h : Rk mb false acts fuse keep fo v w) (ha : 0 ≤ acts) (ha2 : acts ≤ 1000000) (hf : 0 ≤ fuse) (hf2 : fuse ≤ 9223372036854775807) (hl : foLen fo + b.length ≤ 1000000) :
    Calls Tryd.prog 28 #[.pointer (some ⟨mb, 0, none⟩), .string nmLog, .string (tx b)] w
      (if fuse = 1 then RkEnd mb v true (acts + 1) 0 keep (loseF keep fo) 21 w else RkEnd mb v false (acts + 1) (tickF fuse) keep (some (b, [])) 0 w) := by
  have c1 : w.cell? ⟨mb, 1, none⟩ = some (.bool false) := cell_at h.cells rfl
  have hsb : (tx b).size = b.length := rfl
  have H := Lib.hid h
  obtain ⟨nb, hnb⟩ : ∃ n, b.length = n := ⟨_, rfl⟩
  obtain ⟨tb, htb⟩ : ∃ t, tx b = t := ⟨_, rfl⟩
  rw [htb] at hsb ⊢
  rw [hnb] at hsb hl
  have HTB := Lib.hid (And.intro htb hnb)
  obtain ⟨N, hN⟩ : ∃ N, nmLog = N := ⟨_, rfl⟩
  have HN := Lib.hid hN
  rw [hN]
  have HL := Lib.hid hl
  obtain ⟨fl, hfl⟩ : ∃ n, foLen fo = n := ⟨_, rfl⟩
  have hsize := rsize_any w h (by omega)
  rw [hfl] at hl hsize
  have HSZ := Lib.hid hsize
  have hfl0 : (fl : Int) + nb ≤ 1000000 := by omega
  have hfl1 : (0 : Int) ≤ fl := by omega
  have hfl2 : (0 : Int) ≤ nb := by omega
  have hsz3 : SizeIs #[.string N, .string tb, .int .i64 (nb : Int)] 3 := rfl
  have hone : oneCells #[.string N, .string tb, .int .i64 (nb : Int)] = true := by simp [oneCells, Value.oneCell']
  clear h htb hN hfl hsize hl hnb
  go_enter Tryd.func28, Tryd.ntmps28
  go_wp2_with fail
  refine HSZ.out.mono ?_
  rintro e w1 ⟨rfl, b1⟩
  have H1 := Lib.hid (And.intro (H.out.below b1) b1)
  have hact := Lib.hid (ract_any w1 H1.out.1 ha ha2 hf hf2)
  clear b1 c1 HSZ
  go_wp2_with fail
  refine hact.out.mono ?_
  rintro e w2 ⟨rfl, h2, m2⟩
  have H2 := Lib.hid (And.intro h2 ((Mv.of_below (fp := rkFp mb v) H1.out.2).trans (fq := rkFp mb v) (m2.mono (fun _ _ e => .inl e)) (fun _ _ c => c)))
  have hs2 : w.heap.size ≤ w2.heap.size := H2.out.2.size
  by_cases h1 : fuse = 1
  · subst h1
    have c4 : w2.cell? ⟨mb, 4, none⟩ = some (.int .i64 keep) := cell_at h2.cells rfl
    have HLO := Lib.hid (rlose_any keep w2 h2 (by have := HL.out; omega))
    clear h2 m2 hact
    go_wp2_with fail
    refine HLO.out.mono ?_
    rintro e w6 ⟨he, r6, m6⟩
    subst he
    have E : RkEnd mb v true (acts + 1) 0 keep (loseF keep fo) 21 w (.returned (.int .i64 21)) w6 := ⟨rfl, H2.out.2.trans (fq := rkFp mb v) m6 (fun _ _ c => c), v, r6, fun i hi => .inl hi⟩
    have E := Lib.hid E
    clear r6 m6
    go_wp2_with fail
    go_ret
    exact E.out
  · have h1b : decide (fuse = 1) = false := decide_eq_false h1
    have hput := rput_any (b, []) w2 h2
    have hfp : fileV (b, []) = .agg #[.string N, .string tb, .int .i64 (nb : Int)] := by
      show Value.agg #[.string nmLog, .string (tx (b ++ [])), .int .i64 (b.length : Nat)] = _
      rw [HN.out, List.append_nil, HTB.out.1, HTB.out.2]
    rw [hfp] at hput
    have HPUT := Lib.hid hput
    clear h2 m2 hact hput hfp
    go_wp2_with fail
    refine HPUT.out.mono ?_
    rintro e w5 ⟨he, m5, v5, r5, o5⟩
    subst he
    have E : RkEnd mb v false (acts + 1) (tickF fuse) keep (some (b, [])) 0 w (.returned (.int .i64 0)) w5 := ⟨rfl, H2.out.2.trans (fq := rkFp mb v) (m5.mono (fun _ _ e => .inl e)) (fun _ _ c => c), v5, r5, fun i hi => hi.elim (fun e => .inl (.inl e)) (fun e => .inr (Nat.le_trans hs2 (o5 i e)))⟩
    have E := Lib.hid E
    clear m5 r5 o5 HPUT
    go_wp2_with fail
    go_ret
    exact E.out
end
end Go.Proofs.YtldicnhpccionaaDoor
