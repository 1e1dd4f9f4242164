/-
SHA-256 in the program: the words.
-/
import Derived.Test.YtldicnhpccionaaDoorBase
import Derived.Test.YtldicnhpccionaaDoorChecked
import Derived.ProofKit
import Derived.Lib.Hide
import Derived.LoopTactic
import Derived.WalkLawsBesides
import Derived.WalkSmall
import Derived.Laws.Closers25b
namespace Go.Proofs.YtldicnhpccionaaDoor
open Go.RowKit
set_option linter.unusedVariables false

/-- a word turned to the left -/
def rotl (x : Int) (s : Nat) : Int := bits BinOp.or IntKind.u32 (x * 2 ^ s % 4294967296) (x / 2 ^ (32 - s))
theorem rot_any (k : Int) (s : Nat) (hs : bits BinOp.and IntKind.u64 (IntKind.u64.wrap k) 31 = (s : Int)) (h0 : 0 < s) (h : s < 32) (x : Int) (hx : 0 ≤ x) (hx2 : x < 4294967296) (w : World) :
    Calls Tryd.prog 62 #[.int .u32 x, .int .i64 k] w fun e w' => e = .returned (.int .u32 (rotl x s)) ∧ w = w' := by
  have e1 : (0 : Int) ≤ s := by omega
  have e2 : (s : Int) < 32 := by omega
  have e3 : (32 : Int) - s = ((32 - s : Nat) : Int) := by omega
  go_enter Tryd.func62, Tryd.ntmps62
  go_wp2_with fail
  go_ret
  exact ⟨rfl, rfl⟩

/-- four bytes as a number, the highest first -/
def wordI (b0 b1 b2 b3 : Int) : Int := bits BinOp.or IntKind.u32 (bits BinOp.or IntKind.u32 (bits BinOp.or IntKind.u32 (b0 * 16777216) (b1 * 65536)) (b2 * 256)) b3
theorem word_any (b o n cap : Nat) (b0 b1 b2 b3 : Int) (w : World) (hn : (4 : Int) ≤ n) (c0 : w.cell? ⟨b, o, none⟩ = some (.int .u8 b0)) (c1 : w.cell? ⟨b, o + 1, none⟩ = some (.int .u8 b1)) (c2 : w.cell? ⟨b, o + 2, none⟩ = some (.int .u8 b2)) (c3 : w.cell? ⟨b, o + 3, none⟩ = some (.int .u8 b3))
    (h0 : 0 ≤ b0 ∧ b0 < 256) (h1 : 0 ≤ b1 ∧ b1 < 256) (h2 : 0 ≤ b2 ∧ b2 < 256) (h3 : 0 ≤ b3 ∧ b3 < 256) :
    Calls Tryd.prog 61 #[.slice (some ⟨b, o, none⟩) n cap] w fun e w' => e = .returned (.int .u32 (wordI b0 b1 b2 b3)) ∧ ∃ n, w' = w.drewN n := by
  obtain ⟨l0, u0⟩ := h0
  obtain ⟨l1, u1⟩ := h1
  obtain ⟨l2, u2⟩ := h2
  obtain ⟨l3, u3⟩ := h3
  have g0 : (0 : Int) < n := by omega
  have g1 : (1 : Int) < n := by omega
  have g2 : (2 : Int) < n := by omega
  have g3 : (3 : Int) < n := by omega
  go_enter Tryd.func61, Tryd.ntmps61
  go_wp2_with fail
  go_quiet (fail)
  go_wp2_with fail
  go_ret
  exact ⟨rfl, _, rfl⟩

/-! ### arrays of numbers, as functions -/
def upd (f : Nat → Int) (i : Nat) (v : Int) : Nat → Int := fun j => if j = i then v else f j
theorem upd_at (f : Nat → Int) (i : Nat) (v : Int) : upd f i v i = v := by unfold upd; rw [if_pos rfl]
theorem upd_ne (f : Nat → Int) {i j : Nat} (v : Int) (h : j ≠ i) : upd f i v j = f j := by unfold upd; rw [if_neg h]
def arrK (k : IntKind) (n : Nat) (f : Nat → Int) : Array Value := ((List.range n).map fun i => Value.int k (f i)).toArray
theorem arrK_size (k : IntKind) (n : Nat) (f : Nat → Int) : (arrK k n f).size = n := by simp [arrK]
theorem arrK_get (k : IntKind) {n : Nat} (f : Nat → Int) {i : Nat} (h : i < n) : (arrK k n f)[i]? = some (.int k (f i)) := by simp [arrK, h]
theorem arrK_ext {k : IntKind} {n : Nat} {f g : Nat → Int} (h : ∀ i, i < n → f i = g i) : arrK k n f = arrK k n g := by
  unfold arrK
  congr 1
  exact List.map_congr_left fun i hi => by rw [h i (by simpa using hi)]
theorem arrK_set (k : IntKind) {n : Nat} (f : Nat → Int) {i : Nat} (v : Int) : (arrK k n f).setIfInBounds i (.int k v) = arrK k n (upd f i v) := by
  apply Array.ext_getElem?
  intro j
  rw [Array.getElem?_setIfInBounds, arrK_size]
  by_cases hj : j < n
  · rw [arrK_get k _ hj, arrK_get k _ hj]
    by_cases e : i = j
    · subst e; rw [if_pos rfl, if_pos hj, upd_at]
    · rw [if_neg e, upd_ne f v (Ne.symm e)]
  · rw [Array.getElem?_eq_none (by rw [arrK_size]; omega), Array.getElem?_eq_none (xs := arrK k n (upd f i v)) (by rw [arrK_size]; omega)]
    split
    · rename_i e; rw [if_neg (by omega)]
    · rfl
/-- a block of memory is such an array -/
def Arr (w : World) (g : Nat) (t : TypeId) (k : IntKind) (n : Nat) (f : Nat → Int) : Prop := w.heap[g]? = some (.cells (arrK k n f) t (0, 0))
theorem Arr.lt {w : World} {g : Nat} {t : TypeId} {k : IntKind} {n : Nat} {f : Nat → Int} (h : Arr w g t k n f) : g < w.heap.size := (Array.getElem?_eq_some_iff.1 h).1
theorem Arr.cell {w : World} {g : Nat} {t : TypeId} {k : IntKind} {n : Nat} {f : Nat → Int} (h : Arr w g t k n f) {i : Nat} (hi : i < n) : w.cell? ⟨g, i, none⟩ = some (.int k (f i)) := by
  unfold Arr at h
  have := arrK_get k f hi
  simp [World.cell?, h, this]
theorem Arr.frozen {w : World} {g : Nat} {t : TypeId} {k : IntKind} {n : Nat} {f : Nat → Int} (h : Arr w g t k n f) (i : Nat) : w.frozen? ⟨g, i, none⟩ = false := frozen_of_row w g i _ t h
theorem Arr.set {w : World} {g : Nat} {t : TypeId} {k : IntKind} {n : Nat} {f : Nat → Int} (h : Arr w g t k n f) (i : Nat) (v : Int) : Arr (w.setCell ⟨g, i, none⟩ (.int k v)) g t k n (upd f i v) := by
  unfold Arr
  rw [heap_setCell_same w g i _ t _ h, arrK_set]
theorem Arr.of {w w' : World} {g : Nat} {t : TypeId} {k : IntKind} {n : Nat} {f : Nat → Int} (h : Arr w g t k n f) (e : w'.heap[g]? = w.heap[g]?) : Arr w' g t k n f := e.trans h
theorem Arr.ext {w : World} {g : Nat} {t : TypeId} {k : IntKind} {n : Nat} {f f' : Nat → Int} (h : Arr w g t k n f) (e : ∀ i, i < n → f i = f' i) : Arr w g t k n f' := by
  unfold Arr at *; rw [h, arrK_ext e]
theorem Arr.row {w : World} {g : Nat} {t : TypeId} {k : IntKind} {n : Nat} {f : Nat → Int} (h : Arr w g t k n f) : rowAt w g 0 n = some (arrK k n f) := by
  unfold Arr at h
  unfold rowAt
  rw [h]
  exact cut_all _ _ (arrK_size k n f)

@[go_sem ↓] theorem lv_w64 (a : Addr) : loadVar 101 a = ldVar 101 a := rfl
@[go_sem] theorem run_lv_w64 (w : World) (b o : Nat) : (ldVar 101 ⟨b, o, none⟩).run Tryd.prog w = match rowAt w b o 64 with | some cs => .ok (.agg cs) w | none => (ldRaw 101 ⟨b, o, none⟩).run Tryd.prog w :=
  run_ldVar w 101 b o 64 _ Tryd.underlying101 rfl (by kernel_rfl)
@[go_sem ↓] theorem lv_Digest (a : Addr) : loadVar 67 a = ldVar 67 a := rfl
@[go_sem] theorem run_lv_Digest (w : World) (b o : Nat) : (ldVar 67 ⟨b, o, none⟩).run Tryd.prog w = match rowAt w b o 32 with | some cs => .ok (.agg cs) w | none => (ldRaw 67 ⟨b, o, none⟩).run Tryd.prog w :=
  run_ldVar w 67 b o 32 _ Tryd.underlying67 rfl (by kernel_rfl)

@[go_sem ↓] theorem sv_Digest (a : Addr) (v : Value) : storeVar 67 a v = stVar 67 a v := rfl
@[go_sem] theorem run_sv_Digest (w : World) (b : Nat) (cs : Array Value) : (stVar 67 ⟨b, 0, none⟩ (.agg cs)).run Tryd.prog w = match putRow w b 32 cs with | some w' => .ok () w' | none => (stRaw 67 ⟨b, 0, none⟩ (.agg cs)).run Tryd.prog w :=
  run_stVar w 67 b 32 cs (by kernel_rfl)
theorem arrK_ones (k : IntKind) (n : Nat) (f : Nat → Int) : oneCells (arrK k n f) = true := by
  unfold oneCells
  rw [Array.all_eq_true]
  intro i hi
  have := arrK_get k f (n := n) (i := i) (by rw [arrK_size] at hi; exact hi)
  rw [Array.getElem?_eq_getElem hi] at this
  rw [Option.some.inj this]
  rfl
theorem run_index_arr {P : Program} {t e : TypeId} {k : IntKind} {n : Nat} {i0 : TypeInfo} (ht : P.underlying t = some (.array n e)) (hi : P.info? e = some i0) (hs : i0.size = 1) (hd : P.underlying e = some (.int k)) (f : Nat → Int) {i : Nat} (h : i < n) (w : World) :
    (Instr.index t (.agg (arrK k n f)) (.int .i64 i)).run P w = .ok (.int k (f i)) w := by
  have h0 : (0 : Int) ≤ i ∧ (i : Int) < n := by omega
  have hg := arrK_get k f h
  unfold Instr.index
  simp [asIntOf, run_underlying ht, h0, sizeOf, typeInfo, hi, hs]
  unfold Go.part
  simp [isAgg, run_underlying hd, hg, h]
/-- a number of 32 bits -/
def U32 (x : Int) : Prop := 0 ≤ x ∧ x < 4294967296
/-- the rounds' numbers -/
def tabL : List Int := [1116352408, 1899447441, 3049323471, 3921009573, 961987163, 1508970993, 2453635748, 2870763221, 3624381080, 310598401, 607225278, 1426881987, 1925078388, 2162078206, 2614888103, 3248222580, 3835390401, 4022224774, 264347078, 604807628, 770255983, 1249150122, 1555081692, 1996064986, 2554220882, 2821834349, 2952996808, 3210313671, 3336571891, 3584528711, 113926993, 338241895, 666307205, 773529912, 1294757372, 1396182291, 1695183700, 1986661051, 2177026350, 2456956037, 2730485921, 2820302411, 3259730800, 3345764771, 3516065817, 3600352804, 4094571909, 275423344, 430227734, 506948616, 659060556, 883997877, 958139571, 1322822218, 1537002063, 1747873779, 1955562222, 2024104815, 2227730452, 2361852424, 2428436474, 2756734187, 3204031479, 3329325298]
def tabK (i : Nat) : Int := tabL.getD i 0
theorem u32_tab (i : Nat) : U32 (tabK i) := by
  by_cases h : i < 64
  · have : ∀ x ∈ tabL, 0 ≤ x ∧ x < 4294967296 := by decide
    unfold tabK
    rw [List.getD_eq_getElem?_getD, List.getElem?_eq_getElem (by simpa [tabL] using h)]
    exact this _ (List.getElem_mem _)
  · unfold tabK
    rw [List.getD_eq_getElem?_getD, List.getElem?_eq_none (by simp [tabL]; omega)]
    exact ⟨by decide, by decide⟩
/-- they lie in the program's table -/
def Tab (w : World) : Prop := ∀ i, i < 64 → w.cell? ⟨0, i, none⟩ = some (.int .u32 (tabK i))

/-- the other bits of a word -/
def notI (n : Int) : Int := bits BinOp.xor IntKind.u32 4294967295 n
@[go_sem ↓] theorem ite_u32 : (if IntKind.u32.signed = true then (-1 : Int) else IntKind.u32.max) = 4294967295 := by decide
@[go_sem] theorem max_u32 : IntKind.u32.max = 4294967295 := by decide
@[go_sem] theorem signed_u32 : IntKind.u32.signed = false := rfl

/-! ### what a block does -/
def sg0 (x : Int) : Int := bits BinOp.xor IntKind.u32 (bits BinOp.xor IntKind.u32 (rotl x 25) (rotl x 14)) (x / 8)
def sg1 (x : Int) : Int := bits BinOp.xor IntKind.u32 (bits BinOp.xor IntKind.u32 (rotl x 15) (rotl x 13)) (x / 1024)
def nxt (f : Nat → Int) (i : Nat) : Int := (f (i - 16) + sg0 (f (i - 15)) + f (i - 7) + sg1 (f (i - 2))) % 4294967296
def f16 (p : Nat → Int) : Nat → Int := fun i => if i < 16 then wordI (p (4 * i)) (p (4 * i + 1)) (p (4 * i + 2)) (p (4 * i + 3)) else 0
def sch (p : Nat → Int) : Nat → (Nat → Int)
  | 0 => f16 p
  | j + 1 => upd (sch p j) (16 + j) (nxt (sch p j) (16 + j))
theorem sch_succ {p : Nat → Int} {i : Nat} (h : 16 ≤ i) {v x16 x15 x7 x2 s0 s1 : Int} (h16 : sch p (i - 16) (i - 16) = x16) (h15 : sch p (i - 16) (i - 15) = x15) (h7 : sch p (i - 16) (i - 7) = x7) (h2 : sch p (i - 16) (i - 2) = x2) (e0 : sg0 x15 = s0) (e1 : sg1 x2 = s1)
    (hv : v = (x16 + s0 + x7 + s1) % 4294967296) : upd (sch p (i - 16)) i v = sch p (i + 1 - 16) := by
  have e : i + 1 - 16 = (i - 16) + 1 := by omega
  rw [e]
  show _ = upd (sch p (i - 16)) (16 + (i - 16)) (nxt (sch p (i - 16)) (16 + (i - 16)))
  rw [show 16 + (i - 16) = i by omega]
  unfold nxt
  rw [h16, h15, h7, h2, e0, e1, hv]
theorem u32_bits (op : BinOp) (a b : Int) : U32 (bits op .u32 a b) := ⟨bits_lo_u32 op a b, by have := bits_hi_u32 op a b; omega⟩
theorem u32_mod (a : Int) : U32 (a % 4294967296) := ⟨by omega, by omega⟩
theorem u32_sch (p : Nat → Int) (j i : Nat) : U32 (sch p j i) := by
  induction j with
  | zero =>
    show U32 (f16 p i)
    unfold f16
    split
    · exact u32_bits _ _ _
    · exact ⟨by decide, by decide⟩
  | succ j ih =>
    show U32 (upd (sch p j) (16 + j) (nxt (sch p j) (16 + j)) i)
    unfold upd
    split
    · exact u32_mod _
    · exact ih

/-- the eight words under way -/
structure St8 where
  a : Int
  c : Int
  d : Int
  e : Int
  f : Int
  g : Int
  k : Int
  l : Int
def S1 (f : Int) : Int := bits BinOp.xor IntKind.u32 (bits BinOp.xor IntKind.u32 (rotl f 26) (rotl f 21)) (rotl f 7)
def S0 (a : Int) : Int := bits BinOp.xor IntKind.u32 (bits BinOp.xor IntKind.u32 (rotl a 30) (rotl a 19)) (rotl a 10)
def chI (f g k : Int) : Int := bits BinOp.xor IntKind.u32 (bits BinOp.and IntKind.u32 f g) (bits BinOp.and IntKind.u32 (bits BinOp.xor IntKind.u32 4294967295 f) k)
def majI (a c d : Int) : Int := bits BinOp.xor IntKind.u32 (bits BinOp.xor IntKind.u32 (bits BinOp.and IntKind.u32 a c) (bits BinOp.and IntKind.u32 a d)) (bits BinOp.and IntKind.u32 c d)
def T1 (s : St8) (kt x : Int) : Int := (s.l + S1 s.f + chI s.f s.g s.k + kt + x) % 4294967296
def T2 (s : St8) : Int := (S0 s.a + majI s.a s.c s.d) % 4294967296
def rnd (s : St8) (kt x : Int) : St8 := ⟨(T1 s kt x + T2 s) % 4294967296, s.a, s.c, s.d, (s.e + T1 s kt x) % 4294967296, s.f, s.g, s.k⟩
structure St8.ok (s : St8) : Prop where
  a : U32 s.a
  c : U32 s.c
  d : U32 s.d
  e : U32 s.e
  f : U32 s.f
  g : U32 s.g
  k : U32 s.k
  l : U32 s.l
def rounds (h p : Nat → Int) : Nat → St8
  | 0 => ⟨h 0, h 1, h 2, h 3, h 4, h 5, h 6, h 7⟩
  | i + 1 => rnd (rounds h p i) (tabK i) (sch p 48 i)
theorem rounds_ok {h p : Nat → Int} (hh : ∀ i, U32 (h i)) : ∀ i, (rounds h p i).ok
  | 0 => ⟨hh 0, hh 1, hh 2, hh 3, hh 4, hh 5, hh 6, hh 7⟩
  | i + 1 => by
    have ih := rounds_ok (p := p) hh i
    exact ⟨u32_mod _, ih.a, ih.c, ih.d, u32_mod _, ih.f, ih.g, ih.k⟩
def s8 (s : St8) (i : Nat) : Int :=
  match i with
  | 0 => s.a
  | 1 => s.c
  | 2 => s.d
  | 3 => s.e
  | 4 => s.f
  | 5 => s.g
  | 6 => s.k
  | 7 => s.l
  | _ => 0
theorem s8_ok {s : St8} (h : s.ok) (i : Nat) : U32 (s8 s i) := by
  unfold s8
  split
  · exact h.a
  · exact h.c
  · exact h.d
  · exact h.e
  · exact h.f
  · exact h.g
  · exact h.k
  · exact h.l
  · exact ⟨by decide, by decide⟩
theorem arr8 (s : St8) : (#[.int .u32 s.a, .int .u32 s.c, .int .u32 s.d, .int .u32 s.e, .int .u32 s.f, .int .u32 s.g, .int .u32 s.k, .int .u32 s.l] : Array Value) = arrK .u32 8 (s8 s) := rfl
/-- the state behind a block -/
def blockF (h p : Nat → Int) : Nat → Int := fun j => (h j + s8 (rounds h p 64) j) % 4294967296
theorem blockF_ok (h p : Nat → Int) (j : Nat) : U32 (blockF h p j) := u32_mod _
/-- .. of which the first words are there -/
def mix (h p : Nat → Int) (i : Nat) : Nat → Int := fun j => if j < i then blockF h p j else h j
theorem mix_succ (h p : Nat → Int) (i : Nat) : upd (mix h p i) i ((h i + s8 (rounds h p 64) i) % 4294967296) = mix h p (i + 1) := by
  funext j
  unfold upd mix
  by_cases e : j = i
  · subst e; rw [if_pos rfl, if_pos (by omega)]; rfl
  · rw [if_neg e]
    by_cases c : j < i
    · rw [if_pos c, if_pos (by omega)]
    · rw [if_neg c, if_neg (by omega)]
theorem mix_at (h p : Nat → Int) (i : Nat) : mix h p i i = h i := by unfold mix; rw [if_neg (by omega)]

end Go.Proofs.YtldicnhpccionaaDoor
