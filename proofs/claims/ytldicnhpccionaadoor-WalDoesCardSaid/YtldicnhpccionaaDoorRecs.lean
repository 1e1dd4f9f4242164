/-
The records of bytes, said of lists.
-/
import Derived.Test.YtldicnhpccionaaDoorFrame
namespace Go.Proofs.YtldicnhpccionaaDoor
open Go.RowKit
set_option linter.unusedVariables false
set_option linter.unusedSimpArgs false

/-- the number that bytes are, the highest first -/
def beN (l : List UInt8) : Nat := l.foldl (fun n c => n * 256 + c.toNat) 0
theorem beN_snoc (l : List UInt8) (c : UInt8) : beN (l ++ [c]) = beN l * 256 + c.toNat := by unfold beN; rw [List.foldl_append]; rfl
theorem beN_lt (l : List UInt8) : beN l < 256 ^ l.length := by
  have key : ∀ (l : List UInt8) (n : Nat), l.foldl (fun n c => n * 256 + c.toNat) n < (n + 1) * 256 ^ l.length := by
    intro l
    induction l with
    | nil => intro n; simp
    | cons c l ih =>
      intro n
      rw [List.foldl_cons, List.length_cons, Nat.pow_succ]
      refine Nat.lt_of_lt_of_le (ih _) ?_
      have := c.toNat_lt
      calc (n * 256 + c.toNat + 1) * 256 ^ l.length ≤ ((n + 1) * 256) * 256 ^ l.length := Nat.mul_le_mul_right _ (by omega)
        _ = (n + 1) * (256 ^ l.length * 256) := by rw [Nat.mul_assoc, Nat.mul_comm 256]
  have := key l 0
  unfold beN
  omega
/-- the first record of bytes, if there is one -/
def nextR (l : List UInt8) : Option (List UInt8) :=
  if l.length < 12 then none else
  if l.length - 12 < beN ((l.drop 8).take 4) then none else
  if dig8 ((l.drop 8).take (4 + beN ((l.drop 8).take 4))) = l.take 8 then some ((l.drop 12).take (beN ((l.drop 8).take 4))) else none
theorem nextR_some {l r : List UInt8} (h : nextR l = some r) : 12 ≤ l.length ∧ r.length = beN ((l.drop 8).take 4) ∧ 12 + r.length ≤ l.length ∧ r = (l.drop 12).take r.length ∧ dig8 ((l.drop 8).take (4 + r.length)) = l.take 8 := by
  unfold nextR at h
  split at h
  · cases h
  · split at h
    · cases h
    · split at h
      · rename_i h1 h2 h3
        obtain rfl := Option.some.inj h
        have hl : ((l.drop 12).take (beN ((l.drop 8).take 4))).length = beN ((l.drop 8).take 4) := by rw [List.length_take, List.length_drop]; omega
        exact ⟨by omega, hl, by omega, by rw [hl], by rw [hl]; exact h3⟩
      · cases h
/-- these are all the records at the begin of bytes, and so many bytes they have -/
inductive Recs : List UInt8 → List (List UInt8) → Nat → Prop
  | none {l : List UInt8} (h : nextR l = none) : Recs l [] 0
  | some {l r : List UInt8} {o : List (List UInt8)} {m : Nat} (h : nextR l = some r) (t : Recs (l.drop (12 + r.length)) o m) : Recs l (r :: o) (12 + r.length + m)
theorem Recs.det {l : List UInt8} {o o' : List (List UInt8)} {m m' : Nat} (h : Recs l o m) (h' : Recs l o' m') : o = o' ∧ m = m' := by
  induction h generalizing o' m' with
  | none h =>
    cases h' with
    | none _ => exact ⟨rfl, rfl⟩
    | some h2 _ => rw [h] at h2; cases h2
  | some h t ih =>
    cases h' with
    | none h2 => rw [h] at h2; cases h2
    | some h2 t2 =>
      rw [h] at h2
      obtain rfl := Option.some.inj h2
      obtain ⟨rfl, rfl⟩ := ih t2
      exact ⟨rfl, rfl⟩
theorem Recs.len {l : List UInt8} {o : List (List UInt8)} {m : Nat} (h : Recs l o m) : m ≤ l.length := by
  induction h with
  | none _ => exact Nat.zero_le _
  | some h t ih =>
    have := (nextR_some h).2.2.1
    rw [List.length_drop] at ih
    omega
theorem Recs.ex (l : List UInt8) : ∃ o m, Recs l o m := by
  generalize hn : l.length = n
  induction n using Nat.strongRecOn generalizing l with
  | _ n ih =>
    cases h : nextR l with
    | none => exact ⟨_, _, .none h⟩
    | some r =>
      have := (nextR_some h).2.2.1
      obtain ⟨o, m, t⟩ := ih (l.drop (12 + r.length)).length (by rw [List.length_drop]; omega) _ rfl
      exact ⟨_, _, .some h t⟩
/-- what a record's frame reads as -/
theorem beN_len4 {n : Nat} (h : n ≤ 100000) : beN (len4 n) = n := by
  unfold beN len4
  simp only [List.foldl_cons, List.foldl_nil]
  have e (k : Nat) : (UInt8.ofNat k).toNat = k % 256 := by simp
  rw [e, e, e, e]
  omega
theorem next_frame {l t : List UInt8} (h : l.length ≤ 100000) : nextR (frameL l ++ t) = some l := by
  have h8 := dig8_len (textL l)
  have ht := textL_len l
  have hf := frameL_len l
  have hd8 : (frameL l ++ t).drop 8 = textL l ++ t := by
    unfold frameL
    rw [List.append_assoc, List.drop_left' h8]
  have hl4 : (len4 l.length).length = 4 := rfl
  have ht4 : (textL l ++ t).take 4 = len4 l.length := by
    unfold textL
    rw [List.append_assoc, List.take_left' hl4]
  have hb : beN (((frameL l ++ t).drop 8).take 4) = l.length := by rw [hd8, ht4, beN_len4 h]
  have hd12 : (frameL l ++ t).drop 12 = l ++ t := by
    rw [show (12 : Nat) = 8 + 4 from rfl, ← List.drop_drop, hd8]
    unfold textL
    rw [List.append_assoc, List.drop_left' hl4]
  unfold nextR
  rw [hb, hd12, hd8, if_neg (by rw [List.length_append]; omega), if_neg (by rw [List.length_append]; omega), List.take_left' ht, List.take_left' rfl]
  have : (frameL l ++ t).take 8 = dig8 (textL l) := by
    unfold frameL
    rw [List.append_assoc, List.take_left' h8]
  rw [this, if_pos rfl]
/-- records, one behind the other -/
def framesL (ls : List (List UInt8)) : List UInt8 := ls.flatMap frameL
theorem recs_frames {ls : List (List UInt8)} (h : ∀ l ∈ ls, l.length ≤ 100000) {t : List UInt8} {o : List (List UInt8)} {m : Nat} (ht : Recs t o m) : Recs (framesL ls ++ t) (ls ++ o) ((framesL ls).length + m) := by
  induction ls with
  | nil => simpa [framesL] using ht
  | cons l ls ih =>
    have ih := ih fun x hx => h x (by simp [hx])
    have hl := h l (by simp)
    have e : framesL (l :: ls) ++ t = frameL l ++ (framesL ls ++ t) := by simp [framesL]
    rw [e]
    have hd : (frameL l ++ (framesL ls ++ t)).drop (12 + l.length) = framesL ls ++ t := List.drop_left' (frameL_len l)
    have := Recs.some (next_frame (t := framesL ls ++ t) hl) (by rw [hd]; exact ih)
    have e2 : (framesL (l :: ls)).length + m = 12 + l.length + ((framesL ls).length + m) := by
      show (frameL l ++ framesL ls).length + m = _
      rw [List.length_append, frameL_len]; omega
    rw [e2]
    exact this
/-- part of a record is none -/
theorem next_part {l t : List UInt8} (h : l.length ≤ 100000) {k : Nat} (hk : k < (frameL l).length) : nextR ((frameL l).take k) = none := by
  have hf := frameL_len l
  have hlt : ((frameL l).take k).length = k := by rw [List.length_take]; omega
  unfold nextR
  rw [hlt]
  by_cases c : k < 12
  · rw [if_pos c]
  · rw [if_neg c]
    have hb : beN ((((frameL l).take k).drop 8).take 4) = l.length := by
      have h2 := next_frame (t := []) h
      have h3 := (nextR_some h2).2.1
      rw [List.append_nil] at h3
      rw [h3]
      congr 1
      rw [List.drop_take, List.take_take, Nat.min_eq_left (by omega)]
    rw [hb, if_pos (by omega)]

end Go.Proofs.YtldicnhpccionaaDoor
