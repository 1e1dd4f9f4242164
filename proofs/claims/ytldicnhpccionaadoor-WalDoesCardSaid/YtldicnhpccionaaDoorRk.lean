/-
The reference's disk, with the file "log" alone.
-/
import Derived.Test.YtldicnhpccionaaDoorTorn
namespace Go.Proofs.YtldicnhpccionaaDoor
open Go.RowKit
set_option linter.unusedVariables false
set_option linter.unusedSimpArgs false
/-- the file, or none -/
def Fo (w : World) (mb : Nat) (v : Value) : Option (List UInt8 × List UInt8) → Prop
  | none => v = .slice none 0 0
  | some x => ∃ g cap cur, v = .slice (some ⟨g, 0, none⟩) 1 cap ∧ 1 ≤ cap ∧ g ≠ mb ∧ w.heap[g]? = some (.cells cur 86 (0, 0)) ∧ 3 ≤ cur.size ∧ cur[0]? = some (.string nmLog) ∧ cur[1]? = some (.string (tx (x.1 ++ x.2))) ∧ cur[2]? = some (.int .i64 (x.1.length : Nat))
structure Rk (mb : Nat) (down : Bool) (acts fuse keep : Int) (fo : Option (List UInt8 × List UInt8)) (v : Value) (w : World) : Prop where
  cells : w.heap[mb]? = some (.cells #[v, .bool down, .int .i64 acts, .int .i64 fuse, .int .i64 keep] 57 (0, 0))
  file : Fo w mb v fo
def foLen : Option (List UInt8 × List UInt8) → Nat
  | none => 0
  | some x => (x.1 ++ x.2).length
theorem Fo.mv {w w' : World} {mb : Nat} {v : Value} {fo : Option (List UInt8 × List UInt8)} {fp : Nat → Prop} (h : Fo w mb v fo) (m : Mv fp w w') (hf : ∀ g, v.ownBlock = some g → ¬ fp g) : Fo w' mb v fo := by
  cases fo with
  | none => exact h
  | some x =>
    obtain ⟨g, cap, cur, rfl, h1, h2, h3, h4⟩ := h
    exact ⟨g, cap, cur, rfl, h1, h2, (m.block g (Array.getElem?_eq_some_iff.1 h3).1 (hf g rfl)).trans h3, h4⟩
theorem Fo.ne {w : World} {mb : Nat} {v : Value} {fo : Option (List UInt8 × List UInt8)} (h : Fo w mb v fo) {g : Nat} (hg : v.ownBlock = some g) : g ≠ mb ∧ g < w.heap.size := by
  cases fo with
  | none => rw [h] at hg; cases hg
  | some x =>
    obtain ⟨g', cap, cur, rfl, h1, h2, h3, h4⟩ := h
    simp [Value.ownBlock] at hg
    subst hg
    exact ⟨h2, (Array.getElem?_eq_some_iff.1 h3).1⟩
theorem Rk.lt {mb : Nat} {down : Bool} {acts fuse keep : Int} {fo : Option (List UInt8 × List UInt8)} {v : Value} {w : World} (h : Rk mb down acts fuse keep fo v w) : mb < w.heap.size := (Array.getElem?_eq_some_iff.1 h.cells).1
theorem Rk.mv {mb : Nat} {down : Bool} {acts fuse keep : Int} {fo : Option (List UInt8 × List UInt8)} {v : Value} {w w' : World} {fp : Nat → Prop} (h : Rk mb down acts fuse keep fo v w) (m : Mv fp w w') (h1 : ¬ fp mb) (hf : ∀ g, v.ownBlock = some g → ¬ fp g) : Rk mb down acts fuse keep fo v w' :=
  ⟨(m.block mb h.lt h1).trans h.cells, h.file.mv m hf⟩
/-- the file as it is read -/
theorem Fo.row {w : World} {mb : Nat} {v : Value} {x : List UInt8 × List UInt8} (h : Fo w mb v (some x)) : ∃ g cap, v = .slice (some ⟨g, 0, none⟩) 1 cap ∧ 1 ≤ cap ∧ g < w.heap.size ∧ rowAt w g 0 3 = some #[.string nmLog, .string (tx (x.1 ++ x.2)), .int .i64 (x.1.length : Nat)] := by
  obtain ⟨g, cap, cur, rfl, h1, h2, h3, h4, h5, h6, h7⟩ := h
  refine ⟨g, cap, rfl, h1, (Array.getElem?_eq_some_iff.1 h3).1, ?_⟩
  unfold rowAt
  rw [h3]
  show cut cur 0 3 = _
  unfold cut
  rw [if_pos (by omega)]
  congr 1
  apply Array.ext
  · simp; omega
  · intro i hi1 hi2
    have hi : i < 3 := hi2
    have e : (cur.extract 0 (0 + 3))[i]? = cur[i]? := by rw [Array.getElem?_extract, if_pos (by omega), Nat.zero_add]
    rw [Array.getElem?_eq_getElem hi1] at e
    have e3 : ∀ j u, j = i → cur[j]? = some u → (cur.extract 0 (0 + 3))[i] = u := fun j u hj hu => by
      subst hj
      rw [hu] at e
      exact Option.some.inj e
    rcases (by omega : i = 0 ∨ i = 1 ∨ i = 2) with rfl | rfl | rfl
    · exact e3 0 _ rfl h5
    · exact e3 1 _ rfl h6
    · exact e3 2 _ rfl h7
@[go_sem ↓] theorem lv_File (a : Addr) : loadVar 86 a = ldVar 86 a := rfl
@[go_sem] theorem run_lv_File (w : World) (b o : Nat) : (ldVar 86 ⟨b, o, none⟩).run Tryd.prog w = match rowAt w b o 3 with | some cs => .ok (.agg cs) w | none => (ldRaw 86 ⟨b, o, none⟩).run Tryd.prog w :=
  run_ldVar w 86 b o 3 _ Tryd.underlying86 rfl (by kernel_rfl)
@[go_sem ↓] theorem sv_File (a : Addr) (v : Value) : storeVar 86 a v = stVar 86 a v := rfl
@[go_sem] theorem run_sv_File (w : World) (b : Nat) (cs : Array Value) : (stVar 86 ⟨b, 0, none⟩ (.agg cs)).run Tryd.prog w = match putRow w b 3 cs with | some w' => .ok () w' | none => (stRaw 86 ⟨b, 0, none⟩ (.agg cs)).run Tryd.prog w :=
  run_stVar w 86 b 3 cs (by kernel_rfl)
section
variable {mb : Nat} {down : Bool} {acts fuse keep : Int} {fo : Option (List UInt8 × List UInt8)} {v : Value}
set_option maxRecDepth 100000 in
theorem ract_any (w : World) (h : Rk mb down acts fuse keep fo v w) (ha : 0 ≤ acts) (ha2 : acts ≤ 1000000) (hf : 0 ≤ fuse) (hf2 : fuse ≤ 9223372036854775807) :
    Calls Tryd.prog 45 #[.pointer (some ⟨mb, 0, none⟩)] w fun e w' => e = .returned (.bool (decide (fuse = 1))) ∧ Rk mb down (acts + 1) (if 0 < fuse then fuse - 1 else fuse) keep fo v w' ∧ Mv (· = mb) w w' := by
  have c2 : w.cell? ⟨mb, 2, none⟩ = some (.int .i64 acts) := cell_at h.cells rfl
  have c3 : w.cell? ⟨mb, 3, none⟩ = some (.int .i64 fuse) := cell_at h.cells rfl
  have z2 : w.frozen? ⟨mb, 2, none⟩ = false := frozen_at h.cells
  have z3 : w.frozen? ⟨mb, 3, none⟩ = false := frozen_at h.cells
  have m2 : Mv (· = mb) w (w.setCell ⟨mb, 2, none⟩ (.int .i64 (acts + 1))) := Mv.setCell w ⟨mb, 2, none⟩ _ rfl
  have m3 : ∀ x : Int, Mv (· = mb) w ((w.setCell ⟨mb, 2, none⟩ (.int .i64 (acts + 1))).setCell ⟨mb, 3, none⟩ (.int .i64 x)) := fun x => m2.trans (fq := (· = mb)) (Mv.setCell _ ⟨mb, 3, none⟩ _ rfl) (fun _ _ c => c)
  have r2 : Rk mb down (acts + 1) fuse keep fo v (w.setCell ⟨mb, 2, none⟩ (.int .i64 (acts + 1))) := ⟨setCell_at (i := 2) h.cells _, h.file.mv m2 (fun g hg => (h.file.ne hg).1)⟩
  have r3 : ∀ x : Int, Rk mb down (acts + 1) x keep fo v ((w.setCell ⟨mb, 2, none⟩ (.int .i64 (acts + 1))).setCell ⟨mb, 3, none⟩ (.int .i64 x)) := fun x => ⟨setCell_at (i := 3) (setCell_at (i := 2) h.cells (.int .i64 (acts + 1))) _, h.file.mv (m3 x) (fun g hg => (h.file.ne hg).1)⟩
  have R2 := Lib.hid (And.intro r2 m2)
  have R3 := Lib.hid (fun x => And.intro (r3 x) (m3 x))
  clear h m2 m3 r2 r3
  by_cases h0 : fuse = 0
  · subst h0
    go_enter Tryd.func45, Tryd.ntmps45
    go_wp2_with fail
    go_ret
    exact ⟨rfl, R2.out⟩
  · have hb : (fuse == 0) = false := by simpa using h0
    have hp : 0 < fuse := by omega
    have hd : ((fuse - 1) == 0) = decide (fuse = 1) := by
      by_cases c : fuse = 1
      · subst c; rfl
      · rw [decide_eq_false c]; simp; omega
    have hw : IntKind.i64.wrap (fuse - 1) = fuse - 1 := IntWalk.i64_in _ (by omega)
    rw [if_pos hp]
    go_enter Tryd.func45, Tryd.ntmps45
    go_wp2_with fail
    go_ret
    exact ⟨rfl, R3.out _⟩
set_option maxRecDepth 100000 in
theorem rsize_any (w : World) (h : Rk mb down acts fuse keep fo v w) (hl : foLen fo ≤ 1000000) :
    Calls Tryd.prog 44 #[.pointer (some ⟨mb, 0, none⟩)] w fun e w' => e = .returned (.int .i64 (foLen fo : Nat)) ∧ Below w.heap.size w w' := by
  have c0 : w.cell? ⟨mb, 0, none⟩ = some v := cell_at h.cells rfl
  cases fo with
  | none =>
    obtain rfl : v = .slice none 0 0 := h.file
    clear h
    go_enter Tryd.func44, Tryd.ntmps44
    go_wp2_with fail
    refine wp_loop_rounds 1 ?_
    rw [rounds_succ]
    go_wp2_with fail
    go_ret
    exact ⟨rfl, Below.refl _ _⟩
  | some x =>
    obtain ⟨g, cap, rfl, hcap, hg, hrow⟩ := h.file.row
    have hl2 : (x.1 ++ x.2).length ≤ 1000000 := hl
    have hfl : foLen (some x) = (x.1 ++ x.2).length := rfl
    have hsz : (tx (x.1 ++ x.2)).size = (x.1 ++ x.2).length := rfl
    rw [hfl]
    obtain ⟨t, ht⟩ : ∃ t, tx (x.1 ++ x.2) = t := ⟨_, rfl⟩
    obtain ⟨n, hn⟩ : ∃ n, (x.1 ++ x.2).length = n := ⟨_, rfl⟩
    rw [ht] at hrow hsz
    rw [hn] at hsz hl2 ⊢
    obtain ⟨s, hs⟩ : ∃ s, x.1.length = s := ⟨_, rfl⟩
    rw [hs] at hrow
    have hni : (n : Int) ≤ 1000000 := by omega
    have hni0 : (0 : Int) ≤ n := by omega
    have hsz3 : SizeIs #[.string nmLog, .string t, .int .i64 (s : Int)] 3 := rfl
    have hone : oneCells #[.string nmLog, .string t, .int .i64 (s : Int)] = true := by simp [oneCells, Value.oneCell']
    have hba := Lib.hid (alloc_below w (.cells #[.string nmLog, .string t, .int .i64 (s : Int)] 86))
    clear h hl hfl ht hn hs
    go_enter Tryd.func44, Tryd.ntmps44
    go_wp2_with fail
    refine wp_loop_rounds 2 ?_
    rw [rounds_succ]
    go_wp2_with fail
    rw [rounds_succ]
    go_wp2_with fail
    go_ret
    exact ⟨rfl, hba.out⟩
set_option maxRecDepth 100000 in
theorem rplace_any (w : World) (h : Rk mb down acts fuse keep fo v w) :
    Calls Tryd.prog 48 #[.pointer (some ⟨mb, 0, none⟩), .string nmLog] w fun e w' => e = .returned (.int .i64 (if fo = none then -1 else 0)) ∧ Below w.heap.size w w' := by
  have c0 : w.cell? ⟨mb, 0, none⟩ = some v := cell_at h.cells rfl
  cases fo with
  | none =>
    obtain rfl : v = .slice none 0 0 := h.file
    clear h
    go_enter Tryd.func48, Tryd.ntmps48
    go_wp2_with fail
    refine wp_loop_rounds 1 ?_
    rw [rounds_succ]
    go_wp2_with fail
    go_ret
    exact ⟨rfl, Below.refl _ _⟩
  | some x =>
    obtain ⟨g, cap, rfl, hcap, hg, hrow⟩ := h.file.row
    obtain ⟨t, ht⟩ : ∃ t, tx (x.1 ++ x.2) = t := ⟨_, rfl⟩
    rw [ht] at hrow
    obtain ⟨s, hs⟩ : ∃ s, x.1.length = s := ⟨_, rfl⟩
    rw [hs] at hrow
    have hsz3 : SizeIs #[.string nmLog, .string t, .int .i64 (s : Int)] 3 := rfl
    have hone : oneCells #[.string nmLog, .string t, .int .i64 (s : Int)] = true := by simp [oneCells, Value.oneCell']
    have hba := Lib.hid (alloc_below w (.cells #[.string nmLog, .string t, .int .i64 (s : Int)] 86))
    clear h ht hs
    obtain ⟨N, hN⟩ : ∃ N, nmLog = N := ⟨_, rfl⟩
    rw [hN] at hrow hsz3 hone hba ⊢
    clear hN
    go_enter Tryd.func48, Tryd.ntmps48
    go_wp2_with fail
    refine wp_loop_rounds 2 ?_
    rw [rounds_succ]
    go_wp2_with fail
    go_ret
    exact ⟨rfl, hba.out⟩
def foS : Option (List UInt8 × List UInt8) → List UInt8 × List UInt8
  | none => ([], [])
  | some x => x
def fileV (x : List UInt8 × List UInt8) : Value := .agg #[.string nmLog, .string (tx (x.1 ++ x.2)), .int .i64 (x.1.length : Nat)]
def zeroFile : Obj := .cells #[.string ⟨#[]⟩, .string ⟨#[]⟩, .int .i64 0] 86
set_option maxRecDepth 100000 in
theorem rget_any (w : World) (h : Rk mb down acts fuse keep fo v w) :
    Calls Tryd.prog 46 #[.pointer (some ⟨mb, 0, none⟩), .string nmLog] w fun e w' => e = .returned (fileV (foS fo)) ∧ Below w.heap.size w w' := by
  have bz : Below w.heap.size w (w.alloc zeroFile) := alloc_below w zeroFile
  have hz : (w.alloc zeroFile).heap[w.heap.size]? = some (.cells #[.string ⟨#[]⟩, .string ⟨#[]⟩, .int .i64 0] 86 (0, 0)) := heap_alloc_new _ _
  have hpl := Lib.hid (rplace_any (w.alloc zeroFile) (h.mv (Mv.of_below (fp := fun _ => False) bz) (fun c => c) (fun _ _ c => c)))
  have c0 : w.cell? ⟨mb, 0, none⟩ = some v := cell_at h.cells rfl
  have hmb := h.lt
  have hfv : ∃ t s, fileV (foS fo) = .agg #[.string nmLog, .string t, .int .i64 s] := ⟨_, _, rfl⟩
  have hsx : ∀ N t (s : Int), SizeIs #[.string N, .string t, .int .i64 s] 3 := fun _ _ _ => rfl
  have hox : ∀ N t (s : Int), oneCells #[.string N, .string t, .int .i64 s] = true := fun _ _ _ => by simp [oneCells, Value.oneCell']
  cases fo with
  | none =>
    have hf : fileV (foS none) = .agg #[.string nmLog, .string ⟨#[]⟩, .int .i64 0] := rfl
    rw [hf]
    clear h hfv
    obtain ⟨N, hN⟩ : ∃ N, nmLog = N := ⟨_, rfl⟩
    rw [hN] at hpl ⊢
    clear hN
    unfold zeroFile at *
    go_enter Tryd.func46, Tryd.ntmps46
    go_wp2_with fail
    refine hpl.out.mono ?_
    rintro e w1 ⟨rfl, b1⟩
    rw [if_pos trivial]
    obtain ⟨p1, p2⟩ := putRow_later (n := 3) (cs := #[.string N, .string ⟨#[]⟩, .int .i64 0]) b1 hz rfl (hsx _ _ _) (hox _ _ _)
    have hfin := Lib.hid (below_setRow (bz.trans (b1.mono bz.size)) (Nat.le_refl w.heap.size) #[.string N, .string ⟨#[]⟩, .int .i64 0])
    clear b1 hpl
    go_wp2_with fail
    refine bodyPost_ret (v := .agg #[.string N, .string ⟨#[]⟩, .int .i64 0]) (by rw [results_cell1 Tryd.results46]; simp [go_sem, *]) rfl ?_
    exact ⟨rfl, hfin.out⟩
  | some x =>
    obtain ⟨g, cap, rfl, hcap, hg, hrow⟩ := h.file.row
    have hf : fileV (foS (some x)) = .agg #[.string nmLog, .string (tx (x.1 ++ x.2)), .int .i64 (x.1.length : Nat)] := rfl
    rw [hf]
    obtain ⟨t, ht⟩ : ∃ t, tx (x.1 ++ x.2) = t := ⟨_, rfl⟩
    obtain ⟨s, hs⟩ : ∃ s, x.1.length = s := ⟨_, rfl⟩
    rw [ht, hs] at hrow
    rw [ht, hs]
    clear h ht hs hfv hf
    obtain ⟨N, hN⟩ : ∃ N, nmLog = N := ⟨_, rfl⟩
    rw [hN] at hrow hpl ⊢
    clear hN
    unfold zeroFile at *
    go_enter Tryd.func46, Tryd.ntmps46
    go_wp2_with fail
    refine hpl.out.mono ?_
    rintro e w1 ⟨rfl, b1⟩
    rw [if_neg (by simp)]
    have b01 := bz.trans (b1.mono bz.size)
    obtain ⟨p1, p2⟩ := putRow_later (n := 3) (cs := #[.string N, .string t, .int .i64 (s : Int)]) b1 hz rfl (hsx _ _ _) (hox _ _ _)
    have hfin := Lib.hid (below_setRow b01 (Nat.le_refl w.heap.size) #[.string N, .string t, .int .i64 (s : Int)])
    have c1 : w1.cell? ⟨mb, 0, none⟩ = some (.slice (some ⟨g, 0, none⟩) 1 cap) := (b01.cell (p := ⟨mb, 0, none⟩) hmb).trans c0
    have r1 : rowAt w1 g 0 3 = some #[.string N, .string t, .int .i64 (s : Int)] := (rowAt_below b01 hg 0 3).trans hrow
    clear b1 hrow c0 b01 hpl
    go_wp2_with fail
    refine bodyPost_ret (v := .agg #[.string N, .string t, .int .i64 (s : Int)]) (by rw [results_cell1 Tryd.results46]; simp [go_sem, *]) rfl ?_
    exact ⟨rfl, hfin.out⟩
theorem infoFile : (Tryd.prog.info? 86).map (fun i => (i.zero, i.size, i.bytes)) = some (some (.agg #[.string ByteArray.empty, .string ByteArray.empty, .int .i64 0]), 3, 40) := by kernel_rfl
@[go_sem ↓] theorem ap_Files (ty : TypeId) (args : Array Value) : Builtin.append_ #[55, 55] ty args = apRow #[55, 55] ty args := rfl
theorem file_push (W : World) (N t : ByteArray) (s : Int) (ty : TypeId) : ∃ v' w', (apRow #[55, 55] ty #[.slice none 0 0, .slice (some ⟨W.heap.size, 0, none⟩) 1 1]).run Tryd.prog (W.alloc (.cells #[.string N, .string t, .int .i64 s] 86)) = .ok v' w' ∧
    (∃ g cap cur, v' = .slice (some ⟨g, 0, none⟩) 1 cap ∧ 1 ≤ cap ∧ W.heap.size ≤ g ∧ w'.heap[g]? = some (.cells cur 86 (0, 0)) ∧ 3 ≤ cur.size ∧ cur[0]? = some (.string N) ∧ cur[1]? = some (.string t) ∧ cur[2]? = some (.int .i64 s)) ∧ Below W.heap.size W w' := by
  obtain ⟨i0, hi, hz0, hz1, hz2⟩ := info_parts infoFile
  obtain ⟨v', w', h1, h2, h3, h4, -⟩ := run_append_own_at (P := Tryd.prog) (W.alloc (.cells #[.string N, .string t, .int .i64 s] 86)) W.heap.size 55 ty 86 i0 (.agg #[.string ByteArray.empty, .string ByteArray.empty, .int .i64 0]) 3 40 Tryd.underlying55 hi hz0 hz1 hz2 rfl (by decide) (.slice none 0 0) 0 [] (World.ownsRow_nil _ _ _ _) ⟨W.heap.size, 0, none⟩ 1 1 [.string N, .string t, .int .i64 s] rfl
    (fun j u hu => by rw [Addr.add_mid, Nat.zero_add, World.cell?_alloc_at _ _ _ _ rfl]; simpa using hu) (by intro u hu; simp only [List.mem_cons, List.not_mem_nil, or_false] at hu; rcases hu with rfl | rfl | rfl <;> rfl) (by simp only [maxLen]; omega) (by omega) (by simp)
  refine ⟨v', w', h1, ?_, ((Below.refl W.heap.size W).alloc (Nat.le_refl _) _).grown h3 (by simp) (fun k hk => by cases hk)⟩
  rcases h2.2 with ⟨rfl, h0⟩ | ⟨g, cap, cur, rfl, hB, hh, hc, hm, hs, hx⟩
  · omega
  · have hl : 3 ≤ cur.size := by omega
    have e : ∀ j, j < 3 → cur[j]? = [Value.string N, .string t, .int .i64 s][j]? := fun j hj => by
      have := congrArg (fun l : List Value => l[j]?) hx
      simp only [List.getElem?_take] at this
      rw [if_pos (by omega)] at this
      simpa using this
    exact ⟨g, cap, cur, rfl, by omega, hB, hh, hl, (e 0 (by omega)).trans rfl, (e 1 (by omega)).trans rfl, (e 2 (by omega)).trans rfl⟩
/-- the file is put -/
def PutEnd (mb : Nat) (down : Bool) (acts fuse keep : Int) (x : List UInt8 × List UInt8) (w : World) (e : Ending) (w' : World) : Prop :=
  e = .returned (.tuple #[]) ∧ Mv (· = mb) w w' ∧ ∃ v', Rk mb down acts fuse keep (some x) v' w' ∧ ∀ g, v'.ownBlock = some g → w.heap.size ≤ g
set_option maxRecDepth 100000 in
theorem rput_any (x' : List UInt8 × List UInt8) (w : World) (h : Rk mb down acts fuse keep fo v w) :
    Calls Tryd.prog 47 #[.pointer (some ⟨mb, 0, none⟩), fileV x'] w (PutEnd mb down acts fuse keep x' w) := by
  have hmb := h.lt
  have c0 : w.cell? ⟨mb, 0, none⟩ = some v := cell_at h.cells rfl
  have hfile := h.file
  have hcells := h.cells
  have hfv : fileV x' = .agg #[.string nmLog, .string (tx (x'.1 ++ x'.2)), .int .i64 (x'.1.length : Nat)] := rfl
  rw [hfv]
  -- what the writing of the row leaves
  have hend : ∀ (w1 : World) (hb : Below w.heap.size w w1) v' w2, (∃ g cap cur, v' = .slice (some ⟨g, 0, none⟩) 1 cap ∧ 1 ≤ cap ∧ w1.heap.size ≤ g ∧ w2.heap[g]? = some (.cells cur 86 (0, 0)) ∧ 3 ≤ cur.size ∧ cur[0]? = some (.string nmLog) ∧ cur[1]? = some (.string (tx (x'.1 ++ x'.2))) ∧ cur[2]? = some (.int .i64 (x'.1.length : Nat))) → Below w1.heap.size w1 w2 →
      w2.frozen? ⟨mb, 0, none⟩ = false ∧ (∃ u, w2.cell? ⟨mb, 0, none⟩ = some u) ∧ PutEnd mb down acts fuse keep x' w (.returned (.tuple #[])) (w2.setCell ⟨mb, 0, none⟩ v') := by
    rintro w1 hb v' w2 ⟨g, cap, cur, rfl, h1, h2, h3, h4, h5, h6, h7⟩ hb2
    have hb3 := hb.trans (hb2.mono hb.size)
    have hc2 : w2.heap[mb]? = _ := (hb3.block mb hmb).trans hcells
    have hne : g ≠ mb := by have := hb.size; omega
    have hs := setCell_at (i := 0) hc2 (.slice (some ⟨g, 0, none⟩) 1 cap)
    refine ⟨frozen_at hc2, ⟨_, cell_at hc2 rfl⟩, rfl, (Mv.of_below (fp := (· = mb)) hb3).trans (fq := (· = mb)) (Mv.setCell w2 ⟨mb, 0, none⟩ _ rfl) (fun _ _ c => c), _, ⟨hs, g, cap, cur, rfl, h1, hne, ?_, h4, h5, h6, h7⟩, fun g' hg => ?_⟩
    · exact (Below.heap_setCell _ _ _ _ (by show g ≠ mb; exact hne)).trans h3
    · simp [Value.ownBlock] at hg
      subst hg
      have := hb.size; omega
  have hless : Op.bytesLess nmLog.toList nmLog.toList = false := by kernel_rfl
  have beqN : (nmLog.toList == nmLog.toList) = true := beq_self_eq_true _
  obtain ⟨N, hN⟩ : ∃ N, nmLog = N := ⟨_, rfl⟩
  obtain ⟨t', ht'⟩ : ∃ t, tx (x'.1 ++ x'.2) = t := ⟨_, rfl⟩
  obtain ⟨s', hs'⟩ : ∃ s, x'.1.length = s := ⟨_, rfl⟩
  rw [hN, ht', hs'] at hend
  rw [hN] at hless beqN
  rw [hN, ht', hs']
  have bx := alloc_below w (.cells #[.string N, .string t', .int .i64 (s' : Int)] 86)
  have c0x : (w.alloc (.cells #[.string N, .string t', .int .i64 (s' : Int)] 86)).cell? ⟨mb, 0, none⟩ = some v := (bx.cell (p := ⟨mb, 0, none⟩) hmb).trans c0
  have rx : rowAt (w.alloc (.cells #[.string N, .string t', .int .i64 (s' : Int)] 86)) w.heap.size 0 3 = some #[.string N, .string t', .int .i64 (s' : Int)] := by rw [rowAt_alloc_at _ _ _ _ _ _ rfl]; rfl
  have sx : (w.alloc (.cells #[.string N, .string t', .int .i64 (s' : Int)] 86)).heap.size = w.heap.size + 1 := by simp
  have cx : (w.alloc (.cells #[.string N, .string t', .int .i64 (s' : Int)] 86)).cell? ⟨w.heap.size, 0, none⟩ = some (.string N) := by rw [World.cell?_alloc_at _ _ _ _ rfl]; rfl
  cases fo with
  | none =>
    obtain rfl : v = .slice none 0 0 := hfile
    clear h hcells hfv ht' hs' hN
    obtain ⟨v', w2, r2, f2, b2⟩ := file_push (w.alloc (.cells #[.string N, .string t', .int .i64 (s' : Int)] 86)) N t' s' 55
    obtain ⟨fz, ⟨u, hu⟩, E⟩ := hend _ bx v' w2 f2 b2
    obtain ⟨gg, cc, _, rfl, -⟩ := f2
    have E := Lib.hid E
    clear hend b2 bx
    rw [sx] at r2
    go_enter Tryd.func47, Tryd.ntmps47
    go_wp2_with fail
    refine wp_loop_rounds 1 ?_
    rw [rounds_succ]
    go_wp2_with fail
    go_end0
    exact E.out
  | some x =>
    obtain ⟨g, cap, rfl, hcap, hg, hrow⟩ := hfile.row
    obtain ⟨t, ht⟩ : ∃ t, tx (x.1 ++ x.2) = t := ⟨_, rfl⟩
    obtain ⟨s, hs⟩ : ∃ s, x.1.length = s := ⟨_, rfl⟩
    rw [hN, ht, hs] at hrow
    have hrow2 : rowAt (w.alloc (.cells #[.string N, .string t', .int .i64 (s' : Int)] 86)) g 0 3 = some #[.string N, .string t, .int .i64 (s : Int)] := (rowAt_below bx hg 0 3).trans hrow
    have hsz3 : SizeIs #[.string N, .string t, .int .i64 (s : Int)] 3 := rfl
    have hone : oneCells #[.string N, .string t, .int .i64 (s : Int)] = true := by simp [oneCells, Value.oneCell']
    obtain ⟨w0, hw0⟩ : ∃ w0, w.alloc (.cells #[.string N, .string t', .int .i64 (s' : Int)] 86) = w0 := ⟨_, rfl⟩
    have ba := alloc_below w0 (.cells #[.string N, .string t, .int .i64 (s : Int)] 86)
    rw [hw0] at sx cx rx bx c0x hrow2
    have rx2 : rowAt (w0.alloc (.cells #[.string N, .string t, .int .i64 (s : Int)] 86)) w.heap.size 0 3 = some #[.string N, .string t', .int .i64 (s' : Int)] := (rowAt_below ba (by omega) 0 3).trans rx
    have cx2 : (w0.alloc (.cells #[.string N, .string t, .int .i64 (s : Int)] 86)).cell? ⟨w.heap.size, 0, none⟩ = some (.string N) := (ba.cell (p := ⟨w.heap.size, 0, none⟩) (by show w.heap.size < w0.heap.size; omega)).trans cx
    obtain ⟨v', w2, r2, f2, b2⟩ := file_push (w0.alloc (.cells #[.string N, .string t, .int .i64 (s : Int)] 86)) N t' s' 55
    obtain ⟨fz, ⟨u, hu⟩, E⟩ := hend _ (bx.trans (ba.mono bx.size)) v' w2 f2 b2
    have s2 : (w0.alloc (.cells #[.string N, .string t, .int .i64 (s : Int)] 86)).heap.size = w.heap.size + 2 := by simp; omega
    have cy : (w0.alloc (.cells #[.string N, .string t, .int .i64 (s : Int)] 86)).cell? ⟨w.heap.size + 1, 0, none⟩ = some (.string N) := by rw [World.cell?_alloc_at _ _ _ _ (by omega)]; rfl
    have cx3 : w2.cell? ⟨w.heap.size, 0, none⟩ = some (.string N) := (b2.cell (p := ⟨w.heap.size, 0, none⟩) (by show w.heap.size < _; omega)).trans cx2
    have cy3 : w2.cell? ⟨w.heap.size + 1, 0, none⟩ = some (.string N) := (b2.cell (p := ⟨w.heap.size + 1, 0, none⟩) (by show w.heap.size + 1 < _; omega)).trans cy
    obtain ⟨gg, cc, _, rfl, -⟩ := f2
    have E := Lib.hid E
    rw [s2] at r2
    clear h hfile hcells hfv ht' hs' hN ht hs hend b2 ba bx hrow
    go_enter Tryd.func47, Tryd.ntmps47
    go_wp2_with fail
    refine wp_loop_rounds 2 ?_
    rw [rounds_succ]
    go_wp2_with fail
    rw [rounds_succ]
    go_wp2_with fail
    go_end0
    exact E.out
end
end Go.Proofs.YtldicnhpccionaaDoor
