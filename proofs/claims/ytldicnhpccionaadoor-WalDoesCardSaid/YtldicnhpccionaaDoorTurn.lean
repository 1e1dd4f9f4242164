/-
A file's bytes turn: into the safe ones, behind those that wait.
-/
import Derived.Test.YtldicnhpccionaaDoorCon
namespace Go.Proofs.YtldicnhpccionaaDoor
open Go.RowKit
set_option linter.unusedVariables false
set_option linter.unusedSimpArgs false
def FileS.safed (f : FileS) (v : Value) (m : List UInt8) : FileS := ⟨f.nm, f.g, v, .slice none 0 0, f.s ++ m, []⟩
def FileS.longer (f : FileS) (v : Value) (m : List UInt8) : FileS := ⟨f.nm, f.g, f.sv, v, f.s, f.u ++ m⟩
theorem OB.ge {w : World} {B : Nat} {v : Value} {l : List UInt8} (h : OB w B v l) {g : Nat} (hg : v.ownBlock = some g) : B ≤ g := (ob_lt h hg).1
/-- the bytes that wait, or their beginning, are safe -/
theorem Dk.safe {B db mb : Nat} {down : Bool} {acts fuse keep : Int} {fs : List FileS} {w w2 : World} (h : Dk B db mb down acts fuse keep fs w) {f : FileS} (hf : f ∈ fs) {m : List UInt8} {v' : Value}
    (o : OB w2 B v' (f.s ++ m)) (g : w.grownBy w2 f.sv.ownBlock) (e : v'.ownBlock = f.sv.ownBlock ∨ v'.ownBlock = some w.heap.size) :
    Dk B db mb down acts fuse keep (updF fs (f.safed v' m)) ((w2.setCell ⟨f.g, 0, none⟩ v').setCell ⟨f.g, 1, none⟩ (.slice none 0 0)) ∧ Mv f.fp w ((w2.setCell ⟨f.g, 0, none⟩ v').setCell ⟨f.g, 1, none⟩ (.slice none 0 0)) ∧
    w2.frozen? ⟨f.g, 0, none⟩ = false ∧ w2.frozen? ⟨f.g, 1, none⟩ = false := by
  have ho := h.files f hf
  have hgl := (ho.lt (.inl rfl)).2
  have m2 : Mv f.fp w w2 := Mv.of_grown g (fun k hk => .inr (.inl hk))
  have hc2 : w2.heap[f.g]? = some (.cells #[f.sv, f.wv] 75 (0, 0)) := (g.block f.g hgl (fun c => ho.gs c.symm)).trans ho.cells
  have hc3 := setCell_at (i := 0) hc2 v'
  have hc4 := setCell_at (i := 1) hc3 (.slice none 0 0)
  have m4 : Mv f.fp w2 ((w2.setCell ⟨f.g, 0, none⟩ v').setCell ⟨f.g, 1, none⟩ (.slice none 0 0)) := (Mv.setCell _ ⟨f.g, 0, none⟩ _ (.inl rfl)).trans (fq := f.fp) (Mv.setCell _ ⟨f.g, 1, none⟩ _ (.inl rfl)) (fun _ _ c => c)
  have mg : Mv (· = f.g) w2 ((w2.setCell ⟨f.g, 0, none⟩ v').setCell ⟨f.g, 1, none⟩ (.slice none 0 0)) := (Mv.setCell (fp := (· = f.g)) _ ⟨f.g, 0, none⟩ _ rfl).trans (fq := (· = f.g)) (Mv.setCell _ ⟨f.g, 1, none⟩ _ rfl) (fun _ _ c => c)
  have hvg : ∀ k, v'.ownBlock = some k → k ≠ f.g := fun k hk c => by
    subst c
    rcases e with e | e
    · exact ho.gs (e ▸ hk)
    · rw [e] at hk; have := Option.some.inj hk; omega
  have mm : Mv f.fp w _ := m2.trans m4 (fun _ _ c => c)
  refine ⟨h.file hf _ rfl rfl mm ⟨hc4, ho.ge, o.mv mg hvg, ob_nil _ _, fun c => hvg _ c rfl, by simp [FileS.safed, Value.ownBlock], fun i _ => by simp [FileS.safed, Value.ownBlock]⟩ (fun i hi => ?_), mm, frozen_at hc2, frozen_at hc2⟩
  rcases hi with hi | hi | hi
  · exact .inl (.inl hi)
  · rcases e with e | e
    · exact .inl (.inr (.inl (e ▸ hi)))
    · have hi' : v'.ownBlock = some i := hi
      rw [e] at hi'; exact .inr (Nat.le_of_eq (Option.some.inj hi'))
  · simp [FileS.safed, Value.ownBlock] at hi
/-- more bytes wait -/
theorem Dk.wait {B db mb : Nat} {down : Bool} {acts fuse keep : Int} {fs : List FileS} {w w2 : World} (h : Dk B db mb down acts fuse keep fs w) {f : FileS} (hf : f ∈ fs) {m : List UInt8} {v' : Value}
    (o : OB w2 B v' (f.u ++ m)) (g : w.grownBy w2 f.wv.ownBlock) (e : v'.ownBlock = f.wv.ownBlock ∨ v'.ownBlock = some w.heap.size) :
    Dk B db mb down acts fuse keep (updF fs (f.longer v' m)) (w2.setCell ⟨f.g, 1, none⟩ v') ∧ Mv f.fp w (w2.setCell ⟨f.g, 1, none⟩ v') ∧ w2.frozen? ⟨f.g, 1, none⟩ = false := by
  have ho := h.files f hf
  have hgl := (ho.lt (.inl rfl)).2
  have m2 : Mv f.fp w w2 := Mv.of_grown g (fun k hk => .inr (.inr hk))
  have hc2 : w2.heap[f.g]? = some (.cells #[f.sv, f.wv] 75 (0, 0)) := (g.block f.g hgl (fun c => ho.gw c.symm)).trans ho.cells
  have hc4 := setCell_at (i := 1) hc2 v'
  have m4 : Mv f.fp w2 (w2.setCell ⟨f.g, 1, none⟩ v') := Mv.setCell _ ⟨f.g, 1, none⟩ _ (.inl rfl)
  have mg : Mv (· = f.g) w2 (w2.setCell ⟨f.g, 1, none⟩ v') := Mv.setCell _ ⟨f.g, 1, none⟩ _ rfl
  have hvg : ∀ k, v'.ownBlock = some k → k ≠ f.g := fun k hk c => by
    subst c
    rcases e with e | e
    · exact ho.gw (e ▸ hk)
    · rw [e] at hk; have := Option.some.inj hk; omega
  have hsv : OB w2 B f.sv f.s := ho.safe.mv (Mv.of_grown (fp := fun k => f.wv.ownBlock = some k) g (fun k hk => hk)) (fun k hk => ho.sw k hk)
  have mm : Mv f.fp w _ := m2.trans m4 (fun _ _ c => c)
  refine ⟨h.file hf _ rfl rfl mm ⟨hc4, ho.ge, hsv.mv mg (fun k hk c => ho.gs (c ▸ hk)), o.mv mg hvg, ho.gs, fun c => hvg _ c rfl, fun i hi c => ?_⟩ (fun i hi => ?_), mm, frozen_at hc2⟩
  · have c' : v'.ownBlock = some i := c
    have hi' : f.sv.ownBlock = some i := hi
    rcases e with e | e
    · exact ho.sw i hi' (e ▸ c')
    · have := (ho.lt (.inr (.inl hi'))).2
      rw [e] at c'; have := Option.some.inj c'; omega
  · rcases hi with hi | hi | hi
    · exact .inl (.inl hi)
    · exact .inl (.inr (.inl hi))
    · rcases e with e | e
      · exact .inl (.inr (.inr (e ▸ hi)))
      · have hi' : v'.ownBlock = some i := hi
        rw [e] at hi'; exact .inr (Nat.le_of_eq (Option.some.inj hi'))
end Go.Proofs.YtldicnhpccionaaDoor
