/-
The reference's digest: words, and a block.
-/
import Derived.Test.YtldicnhpccionaaDoorResets
import Derived.Laws.BitsLemmas
namespace Go.Proofs.YtldicnhpccionaaDoor
open Go.RowKit
set_option linter.unusedVariables false
set_option linter.unusedSimpArgs false
theorem or_comm32 (a b : Int) : bits BinOp.or IntKind.u32 a b = bits BinOp.or IntKind.u32 b a := by
  show IntKind.u32.wrap ((BitVec.ofInt 32 a ||| BitVec.ofInt 32 b).toNat : Int) = IntKind.u32.wrap ((BitVec.ofInt 32 b ||| BitVec.ofInt 32 a).toNat : Int)
  rw [BitVec.or_comm]
theorem wraps_u32 (n : Int) (h0 : 0 ≤ n) (h1 : n < 2 ^ 32) : IntKind.u32.wrap n = n := IntWalk.u32_in n ⟨h0, by omega⟩
theorem or_join (i : Nat) (x y : Int) (h0 : 0 ≤ x) (h1 : x % 2 ^ i = 0) (h2 : x < 2 ^ 32) (h3 : 0 ≤ y) (h4 : y < 2 ^ i) (h5 : y < 2 ^ 32) : bits BinOp.or IntKind.u32 x y = x + y := bits_join .u32 32 (by decide) wraps_u32 i x y h0 h1 h2 h3 h4 h5
/-- a word is the sum of its bytes -/
theorem word_sum {b0 b1 b2 b3 : Int} (h0 : 0 ≤ b0 ∧ b0 < 256) (h1 : 0 ≤ b1 ∧ b1 < 256) (h2 : 0 ≤ b2 ∧ b2 < 256) (h3 : 0 ≤ b3 ∧ b3 < 256) : wordI b0 b1 b2 b3 = b0 * 16777216 + b1 * 65536 + b2 * 256 + b3 := by
  obtain ⟨l0, u0⟩ := h0
  obtain ⟨l1, u1⟩ := h1
  obtain ⟨l2, u2⟩ := h2
  obtain ⟨l3, u3⟩ := h3
  unfold wordI
  rw [or_join 24 (b0 * 16777216) (b1 * 65536) (by omega) (by omega) (by omega) (by omega) (by omega) (by omega)]
  rw [or_join 16 (b0 * 16777216 + b1 * 65536) (b2 * 256) (by omega) (by omega) (by omega) (by omega) (by omega) (by omega)]
  rw [or_join 8 (b0 * 16777216 + b1 * 65536 + b2 * 256) b3 (by omega) (by omega) (by omega) (by omega) (by omega) (by omega)]
theorem turn_any (k : Nat) (h0 : 0 < k) (h : k < 32) (x : Int) (hx : 0 ≤ x) (hx2 : x < 4294967296) (w : World) :
    Calls Tryd.prog 59 #[.int .u32 x, .int .u64 k] w fun e w' => e = .returned (.int .u32 (rotl x (32 - k))) ∧ w = w' := by
  have e1 : (0 : Int) ≤ k := by omega
  have e2 : (k : Int) < 32 := by omega
  have e3 : (32 : Int) - k = ((32 - k : Nat) : Int) := by omega
  go_enter Tryd.func59, Tryd.ntmps59
  go_wp2_with fail
  have he : bits BinOp.or IntKind.u32 (x / 2 ^ k) (x * 2 ^ (32 - k) % 4294967296) = rotl x (32 - k) := by
    unfold rotl
    rw [or_comm32, show 32 - (32 - k) = k by omega]
  go_ret
  rw [← he]
  exact ⟨rfl, rfl⟩
theorem three_any (i j k : Nat) (hi0 : 0 < i) (hi : i < 32) (hj0 : 0 < j) (hj : j < 32) (hk0 : 0 < k) (hk : k < 32) (x : Int) (hx : 0 ≤ x) (hx2 : x < 4294967296) (w : World) :
    Calls Tryd.prog 60 #[.int .u32 x, .int .u64 i, .int .u64 j, .int .u64 k] w fun e w' => e = .returned (.int .u32 (bits BinOp.xor IntKind.u32 (bits BinOp.xor IntKind.u32 (rotl x (32 - i)) (rotl x (32 - j))) (rotl x (32 - k)))) ∧ w = w' := by
  have t1 := Lib.hid (turn_any i hi0 hi x hx hx2)
  have t2 := Lib.hid (turn_any j hj0 hj x hx hx2)
  have t3 := Lib.hid (turn_any k hk0 hk x hx hx2)
  go_enter Tryd.func60, Tryd.ntmps60
  go_wp2_with fail
  refine (t1.out w).mono ?_
  rintro e w1 ⟨rfl, rfl⟩
  go_wp2_with fail
  refine (t2.out w).mono ?_
  rintro e w1 ⟨rfl, rfl⟩
  go_wp2_with fail
  refine (t3.out w).mono ?_
  rintro e w1 ⟨rfl, rfl⟩
  go_wp2_with fail
  go_ret
  exact ⟨rfl, rfl⟩
/-- arrays of words, built and stored -/
def bldW64 (ps : Array (Nat × Value)) : Sem Value := Instr.build 101 ps
@[go_sem ↓] theorem bld_w64 (ps : Array (Nat × Value)) : Instr.build 101 ps = bldW64 ps := rfl
set_option maxRecDepth 100000 in
@[go_sem] theorem run_bld_tab (w : World) : (bldW64 #[(0, .int .u32 1116352408), (1, .int .u32 1899447441), (2, .int .u32 3049323471), (3, .int .u32 3921009573), (4, .int .u32 961987163), (5, .int .u32 1508970993), (6, .int .u32 2453635748), (7, .int .u32 2870763221), (8, .int .u32 3624381080), (9, .int .u32 310598401), (10, .int .u32 607225278), (11, .int .u32 1426881987), (12, .int .u32 1925078388), (13, .int .u32 2162078206), (14, .int .u32 2614888103), (15, .int .u32 3248222580), (16, .int .u32 3835390401), (17, .int .u32 4022224774), (18, .int .u32 264347078), (19, .int .u32 604807628), (20, .int .u32 770255983), (21, .int .u32 1249150122), (22, .int .u32 1555081692), (23, .int .u32 1996064986), (24, .int .u32 2554220882), (25, .int .u32 2821834349), (26, .int .u32 2952996808), (27, .int .u32 3210313671), (28, .int .u32 3336571891), (29, .int .u32 3584528711), (30, .int .u32 113926993), (31, .int .u32 338241895), (32, .int .u32 666307205), (33, .int .u32 773529912), (34, .int .u32 1294757372), (35, .int .u32 1396182291), (36, .int .u32 1695183700), (37, .int .u32 1986661051), (38, .int .u32 2177026350), (39, .int .u32 2456956037), (40, .int .u32 2730485921), (41, .int .u32 2820302411), (42, .int .u32 3259730800), (43, .int .u32 3345764771), (44, .int .u32 3516065817), (45, .int .u32 3600352804), (46, .int .u32 4094571909), (47, .int .u32 275423344), (48, .int .u32 430227734), (49, .int .u32 506948616), (50, .int .u32 659060556), (51, .int .u32 883997877), (52, .int .u32 958139571), (53, .int .u32 1322822218), (54, .int .u32 1537002063), (55, .int .u32 1747873779), (56, .int .u32 1955562222), (57, .int .u32 2024104815), (58, .int .u32 2227730452), (59, .int .u32 2361852424), (60, .int .u32 2428436474), (61, .int .u32 2756734187), (62, .int .u32 3204031479), (63, .int .u32 3329325298)]).run Tryd.prog w = .ok (.agg (arrK .u32 64 tabK)) w := by kernel_rfl
@[go_sem ↓] theorem sv_w64 (a : Addr) (v : Value) : storeVar 101 a v = stVar 101 a v := rfl
@[go_sem] theorem run_sv_w64 (w : World) (b : Nat) (cs : Array Value) : (stVar 101 ⟨b, 0, none⟩ (.agg cs)).run Tryd.prog w = match putRow w b 64 cs with | some w' => .ok () w' | none => (stRaw 101 ⟨b, 0, none⟩ (.agg cs)).run Tryd.prog w :=
  run_stVar w 101 b 64 cs (by kernel_rfl)
set_option maxRecDepth 100000 in
theorem nums_any (w : World) : Calls Tryd.prog 56 #[] w fun e w' => e = .returned (.agg (arrK .u32 64 tabK)) ∧ Below w.heap.size w w' := by
  have hsz : SizeIs (arrK .u32 64 tabK) 64 := arrK_size _ _ _
  have hone := arrK_ones .u32 64 tabK
  go_enter Tryd.func56, Tryd.ntmps56
  go_wp2_with fail
  have r1 : rowAt (w.alloc (.cells (arrK .u32 64 tabK) 101)) w.heap.size 0 64 = some (arrK .u32 64 tabK) := by rw [rowAt_alloc_at _ _ _ _ _ _ rfl]; exact cut_all _ _ (arrK_size _ _ _)
  refine bodyPost_ret (v := .agg (arrK .u32 64 tabK)) (by rw [results_cell1 Tryd.results56]; simp [go_sem, *]) rfl ?_
  exact ⟨rfl, alloc_below _ _⟩
end Go.Proofs.YtldicnhpccionaaDoor
