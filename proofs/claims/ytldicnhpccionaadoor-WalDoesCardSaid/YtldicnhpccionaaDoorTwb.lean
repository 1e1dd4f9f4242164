/-
Both disks: opening, reading.
-/
import Derived.Test.YtldicnhpccionaaDoorTwo
namespace Go.Proofs.YtldicnhpccionaaDoor
open Go.RowKit
set_option linter.unusedVariables false
set_option linter.unusedSimpArgs false
theorem fileRecs_det {p : PD} {nm : ByteArray} {o o2 : List (List UInt8)} {m m2 : Nat} (h : FileRecs nm p.cs o m) (h2 : FileRecs nm p.cs o2 m2) : o = o2 ∧ openP p nm m = openP p nm m2 := by
  rcases h with ⟨hg, rfl⟩ | ⟨x, hg, hr⟩
  · rcases h2 with ⟨-, rfl⟩ | ⟨x2, hg2, -⟩
    · refine ⟨rfl, ?_⟩
      unfold openP
      rw [hg]
    · rw [hg] at hg2; cases hg2
  · rcases h2 with ⟨hg2, -⟩ | ⟨x2, hg2, hr2⟩
    · rw [hg] at hg2; cases hg2
    · rw [hg] at hg2
      cases hg2
      obtain ⟨rfl, rfl⟩ := hr.det hr2
      exact ⟨rfl, rfl⟩
def gotL (c : Int) (outs : List (List UInt8)) : List (List UInt8) := if c = 0 then outs else []
section
variable {W w : World} {db mb : Nat} {pd pm : PD} {lv : Value × Nat × Obj} {a s l : Nat}
def OpenD (W : World) (db mb : Nat) (p pm : PD) (kb : Nat) (ko : Obj) (e : Ending) (w' : World) : Prop :=
  ∃ outs m vo lv F G, FileRecs nmLog p.cs outs m ∧ e = .returned (.tuple #[lv, vo, .int .i64 (openP p nmLog m).2]) ∧ Two W db mb F G (openP p nmLog m).1 pm w' ∧ LogV w' db F G (lv, kb, ko) ∧ Lst (fun i => ¬ G i) w' vo (gotL (openP p nmLog m).2 outs)
theorem do_open {v0 : Value} {kb : Nat} {ko : Obj} (h : Do W db mb pd pm (v0, kb, ko) w) (ft : pd.fit a s l) (ha : a ≤ 10000) (hs : s ≤ 100000) (hl : l ≤ 10000) (htab : Tab W) (h0 : 0 < W.heap.size) :
    Calls Tryd.prog 15 #[.pointer (some ⟨db, 0, none⟩), .string nmLog] w (OpenD W db mb pd pm kb ko) := by
  obtain ⟨F, G, t, hv⟩ := h.ex
  refine (open_any nmLog w t.law.dk ft ha hs hl (by decide) (t.law.tab htab h0) (t.law.pos h0)).mono ?_
  rintro e w' ⟨outs, m, F', hr, d, hF, mv, hcase⟩
  have t' := t.d d hF mv
  rcases hcase with ⟨hc, lb, vo, rfl, hlog, hnl, hlb, hls⟩ | ⟨hc, rfl⟩
  · refine ⟨outs, m, vo, _, _, G, hr, by rw [hc], t', ⟨.inr ⟨lb, rfl, ⟨hlog, fun c => hnl c.1⟩, fun c => by have := t.gl lb c; omega⟩, hv.2.d hF mv⟩, ?_⟩
    unfold gotL
    rw [if_pos hc]
    exact hls.mv (Mv.refl (fun _ => False) _) (fun i _ hP => ⟨fun c => c, fun c => by have := t.gl i c; omega⟩)
  · refine ⟨outs, m, .slice none 0 0, .pointer none, _, G, hr, by rw [hc], t', ⟨.inl rfl, hv.2.d hF mv⟩, ?_⟩
    unfold gotL
    rw [if_neg (by rw [hc]; decide)]
    exact lst_nil _ _
def ROpenD (W : World) (db mb : Nat) (pd p : PD) (lv : Value × Nat × Obj) (vo : Value) (ls : List (List UInt8)) (e : Ending) (w' : World) : Prop :=
  ∃ outs m vo2, FileRecs nmLog p.cs outs m ∧ e = .returned (.tuple #[vo2, .int .i64 (openP p nmLog m).2]) ∧ Do W db mb pd (openP p nmLog m).1 lv w' ∧ Lst (fun _ => True) w' vo ls ∧ Strs (fun _ => True) w' vo2 ((gotL (openP p nmLog m).2 outs).map tx)
theorem do_rOpen {F G : Nat → Prop} {vo : Value} {ls : List (List UInt8)} (t : Two W db mb F G pd pm w) (hv : LogV w db F G lv) (hls : Lst (fun i => ¬ G i) w vo ls) (ft : pm.fit a s l) (ha : a ≤ 9000) (hs : s ≤ 99000) (hl : l ≤ 9000) (nd : pm.cs.Pairwise fun x y => x.1 ≠ y.1) :
    Calls Tryd.prog 26 #[.pointer (some ⟨mb, 0, none⟩), .string nmLog] w (ROpenD W db mb pd pm lv vo ls) := by
  refine (ropen_S w t.rk ft ha hs hl nd t.gl).mono ?_
  rintro e w' ⟨outs, m, vo2, hr, rfl, h1, h2, r, mv⟩
  refine ⟨outs, m, vo2, hr, rfl, ⟨_, _, t.m r (fun i hi => hi) mv, hv.m (fun i hi => hi) mv⟩, hls.mv mv (fun i _ hi => ⟨hi, trivial⟩), ?_⟩
  unfold gotL
  by_cases hc : (openP pm nmLog m).2 = 0
  · rw [if_pos hc]
    exact (h1 hc).mv (Mv.refl (fun _ => False) _) (fun i _ _ => ⟨fun c => c, trivial⟩)
  · rw [if_neg hc, h2 hc]
    exact strs_nil _ _
/-- what is read of "log" -/
def rdB (p : PD) : List UInt8 := if p.down then [] else (foS (getC nmLog p.cs)).1 ++ (foS (getC nmLog p.cs)).2
def rdN (p : PD) : Int := if p.down then 21 else if getC nmLog p.cs = none then 7 else 0
theorem do_read (h : Do W db mb pd pm lv w) (ft : pd.fit a s l) (ha : a ≤ 10000) (hs : s ≤ 100000) (hl : l ≤ 10000) :
    Calls Tryd.prog 24 #[.pointer (some ⟨db, 0, none⟩), .string nmLog] w fun e w' => ∃ v, e = .returned (.tuple #[v, .int .i64 (rdN pd)]) ∧ OB w' w.heap.size v (rdB pd) ∧ Below w.heap.size w w' := by
  obtain ⟨F, G, t, hv⟩ := h.ex
  refine (read_S nmLog w t.law.dk (ft.ok (by omega) (by omega) (by omega)) (by decide)).mono ?_
  unfold rdN rdB
  rintro e w' ⟨b, ⟨hd, rfl⟩ | ⟨hd, hg, rfl⟩ | ⟨hd, x, v, hg, rfl, o⟩⟩
  · rw [if_pos hd, if_pos hd]
    exact ⟨_, rfl, ob_nil _ _, b⟩
  · simp only [hd, hg]
    exact ⟨_, rfl, ob_nil _ _, b⟩
  · simp only [hd, hg]
    exact ⟨_, rfl, o, b⟩
theorem do_rRead (h : Do W db mb pd pm lv w) :
    Calls Tryd.prog 31 #[.pointer (some ⟨mb, 0, none⟩), .string nmLog] w fun e w' => e = .returned (.tuple #[.string (tx (rdB pm)), .int .i64 (rdN pm)]) ∧ Below w.heap.size w w' := by
  obtain ⟨F, G, t, hv⟩ := h.ex
  obtain ⟨v, r, hG⟩ := t.rk.ex
  refine (rread_any w r).mono ?_
  rintro e w' ⟨b, rfl⟩
  refine ⟨?_, b⟩
  unfold rdB rdN
  cases pm.down <;> rfl
theorem do_acts (h : Do W db mb pd pm lv w) :
    Calls Tryd.prog 32 #[.pointer (some ⟨db, 0, none⟩)] w (fun e w' => e = .returned (.int .i64 pd.acts) ∧ w = w') ∧ w.cell? ⟨mb, 2, none⟩ = some (.int .i64 pm.acts) := by
  obtain ⟨F, G, t, hv⟩ := h.ex
  obtain ⟨v, r, hG⟩ := t.rk.ex
  exact ⟨(acts_any w t.law.dk).mono fun _ _ hh => ⟨hh.1, hh.2.symm⟩, cell_at r.cells rfl⟩
end
set_option maxRecDepth 100000 in
theorem nil_read (w : World) : Calls Tryd.prog 24 #[.pointer none, .string nmLog] w (fun e w' => e = .returned (.tuple #[.slice none 0 0, .int .i64 2]) ∧ w = w') := by
  go_enter Tryd.func24, Tryd.ntmps24
  go_wp2_with fail
  go_ret2
  exact ⟨rfl, rfl⟩
set_option maxRecDepth 100000 in
theorem nil_calls (w : World) :
    Calls Tryd.prog 15 #[.pointer none, .string nmLog] w (fun e w' => e = .returned (.tuple #[.pointer none, .slice none 0 0, .int .i64 2]) ∧ w = w') ∧
    Calls Tryd.prog 19 #[.pointer none, .slice none 0 0] w (fun e w' => e = .returned (.int .i64 2) ∧ w = w') ∧
    Calls Tryd.prog 20 #[.pointer none] w (fun e w' => e = .returned (.int .i64 2) ∧ w = w') ∧
    Calls Tryd.prog 23 #[.pointer none, .slice none 0 0] w (fun e w' => e = .returned (.int .i64 2) ∧ w = w') := by
  refine ⟨?_, ?_, ?_, ?_⟩
  · go_enter Tryd.func15, Tryd.ntmps15
    go_wp2_with fail
    refine (nil_read w).mono ?_
    rintro e w' ⟨rfl, rfl⟩
    go_wp2_with fail
    go_ret3
    exact ⟨rfl, rfl⟩
  · go_enter Tryd.func19, Tryd.ntmps19
    go_wp2_with fail
    go_ret
    exact ⟨rfl, rfl⟩
  · go_enter Tryd.func20, Tryd.ntmps20
    go_wp2_with fail
    go_ret
    exact ⟨rfl, rfl⟩
  · go_enter Tryd.func23, Tryd.ntmps23
    go_wp2_with fail
    go_ret
    exact ⟨rfl, rfl⟩
end Go.Proofs.YtldicnhpccionaaDoor
