/-
A registry of one's own in memory: its rows, apart from one another.
-/
import Derived.Test.YthaeofiplhbggaaDoorCop
namespace Go.Proofs.YthaeofiplhbggaaDoor
open Go.RowKit
set_option linter.unusedVariables false
set_option linter.unusedSimpArgs false
set_option maxRecDepth 100000
/-- only these blocks may have turned, and new ones are there -/
structure Mv (fp : Nat → Prop) (w w' : World) : Prop where
  os : w'.os = w.os
  tape : w'.tape = w.tape
  output : w'.output = w.output
  size : w.heap.size ≤ w'.heap.size
  block : ∀ i, i < w.heap.size → ¬ fp i → w'.heap[i]? = w.heap[i]?
theorem Mv.refl (fp : Nat → Prop) (w : World) : Mv fp w w := ⟨rfl, rfl, rfl, Nat.le_refl _, fun _ _ _ => rfl⟩
theorem Mv.mono {fp fq : Nat → Prop} {w w' : World} (h : Mv fp w w') (hs : ∀ i, i < w.heap.size → fp i → fq i) : Mv fq w w' := ⟨h.os, h.tape, h.output, h.size, fun i hi hf => h.block i hi (fun c => hf (hs i hi c))⟩
theorem Mv.trans {fp : Nat → Prop} {w w1 w2 : World} (h : Mv fp w w1) {fq : Nat → Prop} (k : Mv fq w1 w2) (hs : ∀ i, i < w.heap.size → fq i → fp i) : Mv fp w w2 :=
  ⟨k.os.trans h.os, k.tape.trans h.tape, k.output.trans h.output, Nat.le_trans h.size k.size, fun i hi hf => (k.block i (Nat.lt_of_lt_of_le hi h.size) (fun c => hf (hs i hi c))).trans (h.block i hi hf)⟩
theorem Mv.below {fp : Nat → Prop} {w w' : World} {B : Nat} (h : Mv fp w w') (hB : B ≤ w.heap.size) (hf : ∀ i, fp i → B ≤ i) : Below B w w' :=
  ⟨h.os, h.tape, h.output, h.size, fun k hk => h.block k (Nat.lt_of_lt_of_le hk hB) (fun c => by have := hf k c; omega)⟩
theorem Mv.of_below {fp : Nat → Prop} {w w' : World} (h : Below w.heap.size w w') : Mv fp w w' := ⟨h.os, h.tape, h.output, h.size, fun k hk _ => h.block k hk⟩
theorem Mv.of_grown {fp : Nat → Prop} {w w' : World} {row : Option Nat} (h : w.grownBy w' row) (hf : ∀ k, row = some k → fp k) : Mv fp w w' :=
  ⟨h.os, h.tape, h.output, h.size, fun k hk hn => h.block k hk (fun e => hn (hf k e.symm))⟩
theorem Mv.setCell {fp : Nat → Prop} (w : World) (a : Addr) (v : Value) (hf : fp a.block) : Mv fp w (w.setCell a v) :=
  ⟨rfl, rfl, rfl, by simp [World.setCell], fun k hk hn => Below.heap_setCell _ _ _ _ (fun e => hn (e ▸ hf))⟩
theorem Mv.setRow {fp : Nat → Prop} (w : World) (g : Nat) (c : Array Value) (hf : fp g) : Mv fp w (w.setRow g c) :=
  ⟨rfl, rfl, rfl, by simp, fun k hk hn => setRow_other _ _ _ _ (fun e => hn (e ▸ hf))⟩
theorem Mv.alloc {fp : Nat → Prop} (w : World) (o : Obj) : Mv fp w (w.alloc o) := Mv.of_below ((Below.refl _ _).alloc (Nat.le_refl _) o)
theorem own_mv {fp : Nat → Prop} {w w' : World} {B : Nat} {e sz n : Nat} {v : Value} {xs : List Value} (h : w.ownsRow B e sz v n xs) (m : Mv fp w w') (hf : ∀ g, v.ownBlock = some g → ¬ fp g) : w'.ownsRow B e sz v n xs := by
  obtain ⟨h1, h2⟩ := h
  refine ⟨h1, ?_⟩
  rcases h2 with h2 | ⟨g, cap, cur, hv, hg, hh, r⟩
  · exact .inl h2
  · exact .inr ⟨g, cap, cur, hv, hg, (m.block g (Array.getElem?_eq_some_iff.1 hh).1 (hf g (by rw [hv]; rfl))).trans hh, r⟩
theorem own_lt {w : World} {B : Nat} {e sz n : Nat} {v : Value} {xs : List Value} (h : w.ownsRow B e sz v n xs) {k : Nat} (hk : v.ownBlock = some k) : B ≤ k ∧ k < w.heap.size := by
  rcases h.2 with ⟨rfl, -⟩ | ⟨g', cap, cur, rfl, hB', hh, -⟩
  · cases hk
  · simp [Value.ownBlock] at hk; subst hk; exact ⟨hB', (Array.getElem?_eq_some_iff.1 hh).1⟩
theorem own_shape {w : World} {B : Nat} {e sz n : Nat} {v : Value} {xs : List Value} (h : w.ownsRow B e sz v n xs) : ∃ A cap, v = .slice A n cap ∧ SlOk A n ∧ (∀ b o sp, A = some ⟨b, o, sp⟩ → v.ownBlock = some b ∧ o = 0 ∧ sp = none) := by
  rcases h.2 with ⟨rfl, rfl⟩ | ⟨g, cap, cur, rfl, hB, hh, r⟩
  · exact ⟨none, 0, rfl, ⟨fun _ => rfl, fun _ a h => (by cases h)⟩, fun b o sp h => (by cases h)⟩
  · exact ⟨_, cap, rfl, ⟨fun h => (by cases h), fun _ a h => by cases h; rfl⟩, fun b o sp h => by cases h; exact ⟨rfl, rfl, rfl⟩⟩
/-- a registry of one's own: O is the box of its four slots -/
structure OwnS (B O : Nat) (w : World) (vp vr vm : Value) (ps : List Pr) (rs : List Rp) (ms : List Mb) : Prop where
  p : w.ownsRow B 51 2 vp ps.length (flatC Pr.cells ps)
  r : w.ownsRow B 43 4 vr rs.length (flatC Rp.cells rs)
  m : w.ownsRow B 72 34 vm ms.length (flatC Mb.cells ms)
  t : ∀ x ∈ rs, OT w B x.v x.vals
  okp : OkAllP ps
  okr : OkAllR rs
  okm : OkAll ms
  ap : ∀ k, vp.ownBlock = some k → k ≠ O ∧ vr.ownBlock ≠ some k ∧ vm.ownBlock ≠ some k ∧ ∀ x ∈ rs, x.v.ownBlock ≠ some k
  ar : ∀ k, vr.ownBlock = some k → k ≠ O ∧ vm.ownBlock ≠ some k ∧ ∀ x ∈ rs, x.v.ownBlock ≠ some k
  am : vm.ownBlock ≠ some O
  at_ : ∀ x ∈ rs, x.v.ownBlock ≠ some O
theorem OwnS.mv {B O : Nat} {fp : Nat → Prop} {w w' : World} {vp vr vm : Value} {ps : List Pr} {rs : List Rp} {ms : List Mb} (h : OwnS B O w vp vr vm ps rs ms) (m : Mv fp w w')
    (h1 : ∀ g, vp.ownBlock = some g → ¬ fp g) (h2 : ∀ g, vr.ownBlock = some g → ¬ fp g) (h3 : ∀ g, vm.ownBlock = some g → ¬ fp g) (h4 : ∀ x ∈ rs, ∀ g, x.v.ownBlock = some g → ¬ fp g) : OwnS B O w' vp vr vm ps rs ms :=
  ⟨own_mv h.p m h1, own_mv h.r m h2, own_mv h.m m h3, fun x hx => own_mv (h.t x hx) m (h4 x hx), h.okp, h.okr, h.okm, h.ap, h.ar, h.am, h.at_⟩
theorem OwnS.below {B O : Nat} {w w' : World} {vp vr vm : Value} {ps : List Pr} {rs : List Rp} {ms : List Mb} (h : OwnS B O w vp vr vm ps rs ms) (hb : Below w.heap.size w w') : OwnS B O w' vp vr vm ps rs ms :=
  h.mv (Mv.of_below (fp := fun _ => False) hb) (fun _ _ c => c) (fun _ _ c => c) (fun _ _ c => c) (fun _ _ _ _ c => c)
theorem OwnS.setO {B O : Nat} {w : World} {vp vr vm : Value} {ps : List Pr} {rs : List Rp} {ms : List Mb} (h : OwnS B O w vp vr vm ps rs ms) (i : Nat) (v : Value) : OwnS B O (w.setCell ⟨O, i, none⟩ v) vp vr vm ps rs ms :=
  h.mv (Mv.setCell (fp := (· = O)) w ⟨O, i, none⟩ v rfl) (fun g hg c => (h.ap g hg).1 c) (fun g hg c => (h.ar g hg).1 c) (fun g hg c => h.am (c ▸ hg)) (fun x hx g hg c => h.at_ x hx (c ▸ hg))
theorem OwnS.base {B B' O : Nat} {w : World} {vp vr vm : Value} {ps : List Pr} {rs : List Rp} {ms : List Mb} (h : OwnS B O w vp vr vm ps rs ms) (hb : B' ≤ B) : OwnS B' O w vp vr vm ps rs ms :=
  ⟨own_mono h.p hb, own_mono h.r hb, own_mono h.m hb, fun x hx => own_mono (h.t x hx) hb, h.okp, h.okr, h.okm, h.ap, h.ar, h.am, h.at_⟩
/-- the box may be any block that isn't one of its rows -/
theorem OwnS.box {B O O' : Nat} {w : World} {vp vr vm : Value} {ps : List Pr} {rs : List Rp} {ms : List Mb} (h : OwnS B O w vp vr vm ps rs ms) (ho : O' < B ∨ w.heap.size ≤ O') : OwnS B O' w vp vr vm ps rs ms :=
  ⟨h.p, h.r, h.m, h.t, h.okp, h.okr, h.okm, fun k hk => ⟨by have := own_lt h.p hk; omega, (h.ap k hk).2⟩, fun k hk => ⟨by have := own_lt h.r hk; omega, (h.ar k hk).2⟩, fun e => by have := own_lt h.m e; omega, fun x hx e => by have := own_lt (h.t x hx) e; omega⟩
/-- it can be read -/
theorem OwnS.sts {B O : Nat} {w : World} {vp vr vm : Value} {ps : List Pr} {rs : List Rp} {ms : List Mb} (h : OwnS B O w vp vr vm ps rs ms) (ep : Int) (hp : ps.length ≤ 140737488355328) (hr : rs.length ≤ 140737488355328) (hm : ms.length ≤ 140737488355328) :
    StS w (.agg #[vp, vr, .int .i64 ep, vm]) ps rs ep ms := by
  obtain ⟨Ap, cp, hvp, sp, -⟩ := own_shape h.p
  obtain ⟨Ar, cr, hvr, sr, -⟩ := own_shape h.r
  obtain ⟨Am, cm, hvm, sm, -⟩ := own_shape h.m
  obtain ⟨_, _, e1, P⟩ := PS_of_own h.p h.okp hp
  obtain ⟨_, _, e2, R⟩ := RS_of_own h.r h.okr hr
  obtain ⟨_, _, e3, M⟩ := MS_of_own h.m h.okm hm
  rw [hvp] at e1; cases e1
  rw [hvr] at e2; cases e2
  rw [hvm] at e3; cases e3
  refine ⟨⟨Ap, cp, Ar, cr, Am, cm, by rw [hvp, hvr, hvm], P, sp, R, sr, M, sm, fun x hx => ?_⟩⟩
  obtain ⟨A, c, e, T, s⟩ := (h.t x hx).ts (h.okr x hx).l
  unfold Rp.v at e
  cases e
  exact ⟨T, s⟩
/-- replies as one tells them -/
def Rp.d (x : Rp) : Int × Int × Int × List ByteArray := (x.client, x.num, x.code, x.vals)
/-- a reply is put behind the others -/
theorem rep_push {w : World} {B : Nat} {vr : Value} {rs : List Rp} (ty : TypeId) (h : w.ownsRow B 43 4 vr rs.length (flatC Rp.cells rs)) (x : Rp) (hn : rs.length ≤ 100000) (hB : B ≤ w.heap.size) :
    ∃ v' w', (apRow #[23, 23] ty #[vr, .slice (some ⟨w.heap.size, 0, none⟩) 1 1]).run Tryd.prog (w.alloc (.cells x.arr 43)) = .ok v' w' ∧ w'.ownsRow B 43 4 v' (rs.length + 1) (flatC Rp.cells (rs ++ [x])) ∧
      Mv (fun k => vr.ownBlock = some k) w w' ∧ (v'.ownBlock = vr.ownBlock ∨ v'.ownBlock = some (w.heap.size + 1)) := by
  obtain ⟨i0, hi, hz0, hz1, hz2⟩ := info_parts infoMR
  obtain ⟨v', w', h1, h2, h3, -, h5⟩ := run_append_own_at (P := Tryd.prog) (w.alloc (.cells x.arr 43)) B 23 ty 43 i0 (.agg Rp.zero.arr) 4 48 Tryd.underlying23 hi hz0 hz1 hz2 rfl (by decide) vr rs.length (flatC Rp.cells rs) (World.ownsRow.alloc h _) ⟨w.heap.size, 0, none⟩ 1 1 x.cells rfl
    (fun j u hu => by rw [Addr.add_mid, Nat.zero_add, World.cell?_alloc_at _ _ _ _ rfl]; simpa [Rp.arr] using hu) (cells_onesR x) (by simp only [maxLen]; omega) (by omega) (by simp; omega)
  refine ⟨v', w', h1, ?_, (Mv.alloc w _).trans (Mv.of_grown (fp := fun k => vr.ownBlock = some k) h3 (fun k hk => hk)) (fun i _ c => c), by simpa using h5⟩
  rw [flatC_append, flatC_one]
  exact h2
/-- and stays apart -/
theorem OwnS.push {B O : Nat} {w w' : World} {vp vr vr' vm : Value} {ps : List Pr} {rs : List Rp} {ms : List Mb} (h : OwnS B O w vp vr vm ps rs ms) {x : Rp} (hx : x.ok) (hO : O < w.heap.size)
    (ht : OT w B x.v x.vals) (hxb : ∀ k, x.v.ownBlock = some k → k ≠ O ∧ vp.ownBlock ≠ some k ∧ vr.ownBlock ≠ some k)
    (ho : w'.ownsRow B 43 4 vr' (rs.length + 1) (flatC Rp.cells (rs ++ [x]))) (m : Mv (fun k => vr.ownBlock = some k) w w') (hb : vr'.ownBlock = vr.ownBlock ∨ ∃ g, vr'.ownBlock = some g ∧ w.heap.size ≤ g) : OwnS B O w' vp vr' vm ps (rs ++ [x]) ms := by
  have hr : ∀ k, vr'.ownBlock = some k → vr.ownBlock = some k ∨ w.heap.size ≤ k := fun k hk => by
    rcases hb with hb | ⟨g, hb, hg⟩
    · exact .inl (hb ▸ hk)
    · rw [hk] at hb; cases hb; exact .inr hg
  refine ⟨own_mv h.p m (fun g hg c => (h.ap g hg).2.1 c), by rw [List.length_append]; exact ho, own_mv h.m m (fun g hg c => (h.ar g c).2.1 hg), fun y hy => ?_, h.okp, fun y hy => ?_, h.okm, fun k hk => ⟨(h.ap k hk).1, fun c => ?_, (h.ap k hk).2.2.1, fun y hy => ?_⟩, fun k hk => ⟨?_, ?_, fun y hy => ?_⟩, h.am, fun y hy => ?_⟩
  · rcases List.mem_append.1 hy with hy | hy
    · exact own_mv (h.t y hy) m (fun g hg c => (h.ar g c).2.2 y hy hg)
    · rw [List.mem_singleton] at hy; subst hy
      exact own_mv ht m (fun g hg c => (hxb g hg).2.2 c)
  · rcases List.mem_append.1 hy with hy | hy
    · exact h.okr y hy
    · rw [List.mem_singleton] at hy; subst hy; exact hx
  · rcases hr k c with c | c
    · exact (h.ap k hk).2.1 c
    · have := (own_lt h.p hk).2; omega
  · rcases List.mem_append.1 hy with hy | hy
    · exact (h.ap k hk).2.2.2 y hy
    · rw [List.mem_singleton] at hy; subst hy
      exact fun c => (hxb k c).2.1 hk
  · rcases hr k hk with c | c
    · exact (h.ar k c).1
    · omega
  · rcases hr k hk with c | c
    · exact (h.ar k c).2.1
    · intro e; have := (own_lt h.m e).2; omega
  · rcases List.mem_append.1 hy with hy | hy
    · rcases hr k hk with c | c
      · exact (h.ar k c).2.2 y hy
      · intro e; have := (own_lt (h.t y hy) e).2; omega
    · rw [List.mem_singleton] at hy; subst hy
      intro e
      rcases hr k hk with c | c
      · exact (hxb k e).2.2 c
      · have := (own_lt ht e).2; omega
  · rcases List.mem_append.1 hy with hy | hy
    · exact h.at_ y hy
    · rw [List.mem_singleton] at hy; subst hy
      exact fun c => (hxb O c).1 rfl
end Go.Proofs.YthaeofiplhbggaaDoor
