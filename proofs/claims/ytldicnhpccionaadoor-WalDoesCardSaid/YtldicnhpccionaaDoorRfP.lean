/-
The reference's digest: what stands behind the bytes.
-/
import Derived.Test.YtldicnhpccionaaDoorRfN
namespace Go.Proofs.YtldicnhpccionaaDoor
open Go.RowKit
set_option linter.unusedVariables false
set_option linter.unusedSimpArgs false
/-- a byte's row, just laid -/
theorem ob_one (w : World) (B : Nat) (hB : B ≤ w.heap.size) (c : UInt8) {x : Int} (hx : x = (c.toNat : Int)) : OB (w.alloc (.cells #[.int .u8 x] 5)) B (.slice (some ⟨w.heap.size, 0, none⟩) 1 1) [c] := by
  subst hx
  exact own_of_block (cur := #[.int .u8 (c.toNat : Int)]) hB (heap_alloc_new _ _) (Nat.le_refl _) (by decide) rfl rfl
theorem ob_grow {w w1 : World} {B : Nat} {v : Value} {l : List UInt8} (h : OB w B v l) (hb : Below w.heap.size w w1) : OB w1 B v l := h.mv (Mv.of_below (fp := fun _ => False) hb) (fun _ _ c => c)
/-- one byte is appended, out of a row of its own -/
theorem ob_byte {w : World} {B : Nat} {v : Value} {l : List UInt8} (ty : TypeId) (h : OB w B v l) (c : UInt8) {x : Int} (hx : x = (c.toNat : Int)) (hn : l.length ≤ 1000000) (hB : B ≤ w.heap.size) :
    ∃ v' w', (apRow #[25, 25] ty #[v, .slice (some ⟨w.heap.size, 0, none⟩) 1 1]).run Tryd.prog (w.alloc (.cells #[.int .u8 x] 5)) = .ok v' w' ∧ OB w' B v' (l ++ [c]) ∧ Below B w w' := by
  have hb := alloc_below w (.cells #[.int .u8 x] 5)
  have h1 := ob_grow h hb
  obtain ⟨v', w', r, o, g, -⟩ := ob_both ty h1 (ob_one w B hB c hx) (by simp; omega) (Nat.le_trans hB hb.size)
  exact ⟨v', w', r, o, (hb.mono hB).grown g (Nat.le_trans hB hb.size) (fun k hk => (ob_lt h1 hk).1)⟩
/-- so many noughts -/
def zN (n : Nat) : Nat := 64 * nBl n - 9 - n
theorem zN_eq (n : Nat) : n + 1 + zN n + 8 = 64 * nBl n := by unfold zN nBl; omega
theorem zN_lt (n : Nat) : zN n < 64 := by unfold zN nBl; omega
/-- the length's last bytes -/
def tailL (n : Nat) : Nat → List UInt8
  | 0 => []
  | i + 1 => UInt8.ofNat (8 * n / 256 ^ i % 256) :: tailL n i
theorem tailL_len (n : Nat) : ∀ i, (tailL n i).length = i
  | 0 => rfl
  | i + 1 => by rw [tailL, List.length_cons, tailL_len n i]
theorem tailL_get (n : Nat) : ∀ i j, j < i → (tailL n i).getD j 0 = UInt8.ofNat (8 * n / 256 ^ (i - 1 - j) % 256)
  | 0, j, h => absurd h (Nat.not_lt_zero j)
  | i + 1, 0, h => rfl
  | i + 1, j + 1, h => by
    rw [tailL, List.getD_cons_succ, tailL_get n i j (by omega)]
    rw [show i + 1 - 1 - (j + 1) = i - 1 - j by omega]
def padL (l : List UInt8) : List UInt8 := l ++ [128] ++ List.replicate (zN l.length) 0 ++ tailL l.length 8
theorem padL_len (l : List UInt8) : (padL l).length = 64 * nBl l.length := by
  unfold padL
  rw [List.length_append, List.length_append, List.length_append, List.length_replicate, tailL_len, List.length_singleton]
  exact zN_eq _
theorem xl_app_lt {l m : List UInt8} {i : Nat} (h : i < l.length) : xl (l ++ m) i = xl l i := by
  unfold xl; rw [List.getD_eq_getElem?_getD, List.getD_eq_getElem?_getD, List.getElem?_append_left h]
theorem xl_app_ge {l m : List UInt8} {i : Nat} (h : l.length ≤ i) : xl (l ++ m) i = xl m (i - l.length) := by
  unfold xl; rw [List.getD_eq_getElem?_getD, List.getD_eq_getElem?_getD, List.getElem?_append_right h]
theorem pad_eq (l : List UInt8) {i : Nat} (hi : i < 64 * nBl l.length) : xl (padL l) i = padI (xl l) l.length i := by
  have hz := zN_eq l.length
  unfold padL padI
  by_cases h1 : i < l.length
  · rw [if_pos h1, List.append_assoc, List.append_assoc, xl_app_lt h1]
  · rw [if_neg h1]
    by_cases h2 : i = l.length
    · subst h2
      rw [if_pos rfl, List.append_assoc, List.append_assoc, xl_app_ge (Nat.le_refl _), Nat.sub_self]
      rfl
    · rw [if_neg h2]
      by_cases h3 : 64 * nBl l.length ≤ i + 8
      · rw [if_pos h3]
        have hlen : (l ++ [128] ++ List.replicate (zN l.length) (0 : UInt8)).length = l.length + 1 + zN l.length := by simp; omega
        rw [xl_app_ge (by rw [hlen]; omega), hlen]
        have hj : i - (l.length + 1 + zN l.length) = i + 8 - 64 * nBl l.length := by omega
        rw [hj]
        generalize hjj : i + 8 - 64 * nBl l.length = j
        have hj8 : j < 8 := by omega
        unfold xl lenB
        rw [tailL_get _ _ _ hj8]
        have hp : 256 ^ (8 - 1 - j) = 2 ^ (56 - 8 * j) := by
          rw [show (256 : Nat) = 2 ^ 8 from rfl, ← Nat.pow_mul]; congr 1; omega
        rw [hp]
        simp
      · rw [if_neg h3]
        have hlen : (l ++ [(128 : UInt8)]).length = l.length + 1 := by simp
        rw [xl_app_lt (by simp; omega), xl_app_ge (by rw [hlen]; omega), hlen]
        unfold xl
        rw [List.getD_eq_getElem?_getD, List.getElem?_replicate]
        split <;> rfl
/-- a byte ahead of a row of one's own -/
theorem tail_push {w : World} {B i cap : Nat} {A : Option Addr} {l : List UInt8} {c : UInt8} (ty : TypeId) (h : OB w B (.slice A i cap) l) (hl : l.length = i) {x : Int} (hx : x = (c.toNat : Int)) (hn : l.length ≤ 1000000) (hB : B ≤ w.heap.size) :
    ∃ v' w', (apRow #[25, 25] ty #[.slice (some ⟨w.heap.size, 0, none⟩) 1 1, .slice A i cap]).run Tryd.prog (w.alloc (.cells #[.int .u8 x] 5)) = .ok v' w' ∧ OB w' B v' (c :: l) ∧ Below w.heap.size w w' := by
  have hb := alloc_below w (.cells #[.int .u8 x] 5)
  have h1 := ob_grow h hb
  have h2 := ob_one w B hB c hx
  obtain ⟨v', w', r, o, g, -⟩ := ob_both ty h2 h1 (by simp; omega) (Nat.le_trans hB hb.size)
  exact ⟨v', w', r, o, hb.grown g hb.size (fun k hk => by simp [Value.ownBlock] at hk; omega)⟩
@[go_sem ↓] theorem ap_B_pad (ty : TypeId) (args : Array Value) : Builtin.append_ #[25, 25] ty args = apRow #[25, 25] ty args := rfl
def PadEnd (l : List UInt8) (w : World) (e : Ending) (w' : World) : Prop := ∃ v, e = .returned v ∧ OB w' w.heap.size v (padL l) ∧ Below w.heap.size w w'
set_option maxRecDepth 100000 in
set_option maxHeartbeats 1000000 in
theorem padded_any (A : Option Addr) (n cap : Nat) (l : List UInt8) (w : World) (h : BL w A l) (hl : l.length = n) (hA : A = none → cap = 0 ∧ l = []) (hn : n ≤ 100000) : Calls Tryd.prog 55 #[.slice A n cap] w (PadEnd l w) := by
  have b1 := alloc_below w (.cells #[] 5)
  have o1 : OB (w.alloc (.cells #[] 5)) w.heap.size (.slice (some ⟨w.heap.size, 0, none⟩) 0 0) [] := World.ownsRow_made w #[] 0 (Nat.le_refl _) (by decide) rfl
  obtain ⟨v2, w2, r2, o2, g2, -⟩ := ob_any cap 25 o1 (h.below b1) hl hA (by simp only [List.length_nil]; omega) b1.size
  have b2 : Below w.heap.size w w2 := b1.grown g2 b1.size (fun k hk => (ob_lt o1 hk).1)
  rw [List.nil_append] at o2
  obtain ⟨v3, w3, r3, o3, b3⟩ := ob_byte 25 o2 128 (x := 128) rfl (by omega) b2.size
  have b3 := b2.trans b3
  obtain ⟨A2, c2, rfl, -⟩ := ob_shape o2 hl
  have hln : (l ++ [(128 : UInt8)]).length = n + 1 := by simp; omega
  obtain ⟨A3, c3, rfl, -⟩ := ob_shape o3 hln
  have O3 := Lib.hid o3
  have B3 := Lib.hid b3
  have HL := Lib.hid hl
  have hni : (n : Int) ≤ 100000 := by omega
  have hni0 : (0 : Int) ≤ n := by omega
  have hz1 := zN_eq n
  have hz2 := zN_lt n
  clear h o1 o2 o3 g2 b1 b2 b3 hl hA hn hln
  go_enter Tryd.func55, Tryd.ntmps55
  go_wp2_with fail
  go_loopw [3] (fun s wr => ∃ j m : Nat, j ≤ zN n ∧ m = n + 1 + j ∧ OB wr w.heap.size s (l ++ [128] ++ List.replicate j 0) ∧ Below w.heap.size w wr ∧ ∃ A c, s = .slice A m c) (fun s _ => 100 + n - lenV s)
  case atStart => exact ⟨0, n + 1, Nat.zero_le _, rfl, by simpa using O3.out, B3.out, A3, c3, by go_num⟩
  case round =>
    obtain ⟨j, m, hj, hm, ho, hb, A4, c4, rfl⟩ := hrel
    by_cases hlt : j < zN n
    · have g1 : ¬ (m : Int) % 64 = 56 := by omega
      have hlen : (l ++ [(128 : UInt8)] ++ List.replicate j 0).length = m := by simp; have := HL.out; omega
      have hlen2 : (l ++ [(128 : UInt8)] ++ List.replicate j 0 ++ [0]).length = m + 1 := by rw [List.length_append, hlen]; rfl
      obtain ⟨v5, w5, r5, o5, b5⟩ := ob_byte 25 ho 0 (x := 0) rfl (by omega) hb.size
      obtain ⟨A5, c5, rfl, -⟩ := ob_shape o5 hlen2
      have hrep : l ++ [(128 : UInt8)] ++ List.replicate j 0 ++ [0] = l ++ [128] ++ List.replicate (j + 1) 0 := by rw [List.replicate_succ', ← List.append_assoc]
      rw [hrep] at o5
      have E := Lib.hid (And.intro o5 (hb.trans b5))
      have hm0 : (0 : Int) ≤ m := by omega
      have hm1 : (m : Int) ≤ 200000 := by omega
      have HMM := Lib.hid hm
      clear ho hb o5 b5 hlen hlen2 hrep hm
      go_wp2_with fail
      go_roundw
      case rel => exact ⟨j + 1, m + 1, by omega, by have := HMM.out; omega, E.out.1, E.out.2, A5, c5, rfl⟩
      case measure => have := HMM.out; simp [lenV]; omega
    · have hjz : j = zN n := by omega
      have g1 : (m : Int) % 64 = 56 := by omega
      subst hjz
      have HO := Lib.hid ho
      have HB := Lib.hid hb
      have HMM := Lib.hid hm
      have hm0 : (0 : Int) ≤ m := by omega
      have hm1 : (m : Int) ≤ 200000 := by omega
      have HZ1 := Lib.hid hz1
      clear ho hb hm hz1 hz2
      go_wp2_with fail
      go_loopw [6, 4, 5] (fun t s u wv => ∃ i N : Nat, i ≤ 8 ∧ t = .int .i64 i ∧ s = .int .i64 (N : Nat) ∧ N = (if i = 0 then n else 8 * n / 256 ^ i) ∧ OB wv w.heap.size u (tailL n i) ∧ Below wr.heap.size wr wv ∧ ∃ A c, u = .slice A i c) (fun t _ _ _ => 8 - (intOf t).toNat)
      case atStart => exact ⟨0, n, by omega, rfl, rfl, rfl, ob_nil _ _, Below.refl _ _, none, 0, rfl⟩
      case round =>
        obtain ⟨i, N, hi, rfl, rfl, hN, ho, hb, A6, c6, rfl⟩ := hrel
        have hN1 : N ≤ 100000 := by
          rw [hN]
          split
          · omega
          · have h1 : 1 ≤ i := by omega
            have h2 : 256 ^ 1 ≤ 256 ^ i := Nat.pow_le_pow_right (by decide) h1
            have h3 := Nat.div_le_div_left h2 (by decide) (a := 8 * n)
            rw [Nat.pow_one] at h3
            omega
        have hi0 : (0 : Int) ≤ i := by omega
        have hNi : (N : Int) ≤ 100000 := by omega
        have hNi0 : (0 : Int) ≤ N := by omega
        by_cases hlt : i < 8
        · have hlt' : (i : Int) < 8 := by omega
          obtain ⟨x, M, hx, hM, hxi⟩ : ∃ x M : Nat, x < 256 ∧ M = 8 * n / 256 ^ (i + 1) ∧ x = 8 * n / 256 ^ i % 256 := ⟨_, _, Nat.mod_lt _ (by decide), rfl, rfl⟩
          have hpush := tail_push (i := i) (c := UInt8.ofNat x) 25 ho (tailL_len n i) (x := x) (by simp; omega) (by rw [tailL_len]; omega) (Nat.le_trans HB.out.size hb.size)
          have htl : UInt8.ofNat x :: tailL n i = tailL n (i + 1) := by rw [tailL, hxi]
          obtain ⟨v7, w7, r7, o7, b7⟩ := hpush
          rw [htl] at o7
          obtain ⟨A7, c7, rfl, -⟩ := ob_shape o7 (tailL_len n (i + 1))
          have hpow : 8 * n / 256 ^ (i + 1) = 8 * n / 256 ^ i / 256 := by rw [Nat.pow_succ, Nat.div_div_eq_div_mul]
          have E := Lib.hid (And.intro o7 (hb.trans (b7.mono hb.size)))
          have HMd := Lib.hid hM
          by_cases h0 : i = 0
          · have h0' : (i : Int) = 0 := by omega
            have e1 : (N : Int) % 32 * 8 = x := by rw [hN, if_pos h0, hxi, h0]; simp; omega
            have e2 : (N : Int) / 32 = M := by rw [hN, if_pos h0, hM, h0]; simp; omega
            have hx1 : (x : Int) < 256 := by omega
            clear ho hb o7 b7 htl hpow hN hM hxi h0
            go_wp2_with fail
            go_roundw
            case rel => exact ⟨i + 1, M, by omega, by go_num, rfl, by rw [if_neg (by omega)]; exact HMd.out, E.out.1, E.out.2, A7, c7, rfl⟩
            case measure => simp [intOf]; omega
          · have h0' : ¬ (i : Int) = 0 := by omega
            have e1 : (N : Int) % 256 = x := by rw [hN, if_neg h0, hxi]; omega
            have e2 : (N : Int) / 256 = M := by rw [hN, if_neg h0, hM, hpow]; omega
            have hx1 : (x : Int) < 256 := by omega
            clear ho hb o7 b7 htl hpow hN hM hxi h0
            go_wp2_with fail
            go_roundw
            case rel => exact ⟨i + 1, M, by omega, by go_num, rfl, by rw [if_neg (by omega)]; exact HMd.out, E.out.1, E.out.2, A7, c7, rfl⟩
            case measure => simp [intOf]; omega
        · have hi8 : i = 8 := by omega
          have hlt' : ¬ (i : Int) < 8 := by omega
          have hlen : (l ++ [(128 : UInt8)] ++ List.replicate (zN n) 0).length = m := by have := HL.out; have := HMM.out; simp; omega
          obtain ⟨v8, w8, r8, o8, g8, -⟩ := ob_both 25 (ob_grow HO.out hb) ho (by rw [hlen, tailL_len]; omega) (Nat.le_trans HB.out.size hb.size)
          have hpad : l ++ [(128 : UInt8)] ++ List.replicate (zN n) 0 ++ tailL n i = padL l := by unfold padL; rw [HL.out, hi8]
          rw [hpad] at o8
          have E := Lib.hid (show PadEnd l w (.returned v8) w8 from ⟨v8, rfl, o8, (HB.out.trans (hb.mono HB.out.size)).grown g8 (Nat.le_trans HB.out.size hb.size) (fun k hk => (ob_lt HO.out hk).1)⟩)
          clear ho hb o8 g8 hpad hlen hN hi8
          go_wp2_with fail
          go_ret
          exact E.out
end Go.Proofs.YtldicnhpccionaaDoor
