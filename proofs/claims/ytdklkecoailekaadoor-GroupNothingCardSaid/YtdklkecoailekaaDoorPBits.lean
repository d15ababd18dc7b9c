/- Bits as lists, and as bytes: plain lemmas, no program. -/
import Derived.RowKit
set_option linter.unusedVariables false
namespace Mq

def b2n (b : Bool) : Nat := if b then 1 else 0
theorem b2n_lt (b : Bool) : b2n b < 2 := by cases b <;> decide
theorem b2n_le (b : Bool) : b2n b ≤ 1 := by cases b <;> decide

/-- Bits as a number, the first one lowest. -/
def num : List Bool → Nat
  | [] => 0
  | b :: r => b2n b + 2 * num r
theorem num_lt : ∀ l : List Bool, num l < 2 ^ l.length
  | [] => by simp [num]
  | b :: r => by
    have := num_lt r
    have := b2n_lt b
    simp only [num, List.length_cons, Nat.pow_succ]
    omega
theorem num_append (a b : List Bool) : num (a ++ b) = num a + 2 ^ a.length * num b := by
  induction a with
  | nil => simp [num]
  | cons x r ih =>
    simp only [List.cons_append, num, ih, List.length_cons, Nat.pow_succ]
    rw [Nat.mul_add, Nat.mul_comm (2 ^ r.length) 2, Nat.mul_assoc]
    omega
/-- A number's lowest bits. -/
def bitsOf : Nat → Nat → List Bool
  | 0, _ => []
  | k + 1, v => (v % 2 == 1) :: bitsOf k (v / 2)
theorem bitsOf_length : ∀ k v, (bitsOf k v).length = k
  | 0, _ => rfl
  | k + 1, v => by simp [bitsOf, bitsOf_length k]
theorem num_bitsOf : ∀ k v, num (bitsOf k v) = v % 2 ^ k
  | 0, v => by simp [bitsOf, num, Nat.mod_one]
  | k + 1, v => by
    simp only [bitsOf, num, num_bitsOf k]
    rw [Nat.pow_succ, Nat.mul_comm (2 ^ k) 2, Nat.mod_mul]
    have h2 := Nat.mod_two_eq_zero_or_one v
    rcases h2 with h | h <;> simp [h, b2n]
theorem bitsOf_num : ∀ l : List Bool, bitsOf l.length (num l) = l
  | [] => rfl
  | b :: r => by
    have h1 : (b2n b + 2 * num r) % 2 = b2n b := by have := b2n_lt b; omega
    have h2 : (b2n b + 2 * num r) / 2 = num r := by have := b2n_lt b; omega
    simp only [List.length_cons, bitsOf, num, h1, h2, bitsOf_num r]
    cases b <;> rfl
theorem bitsOf_snoc (k v : Nat) : bitsOf (k + 1) v = bitsOf k v ++ [(v / 2 ^ k) % 2 == 1] := by
  induction k generalizing v with
  | zero => simp [bitsOf]
  | succ k ih =>
    rw [bitsOf, ih, bitsOf]
    simp only [List.cons_append]
    congr 3
    rw [Nat.div_div_eq_div_mul, Nat.pow_succ, Nat.mul_comm]

/-- Bits as bytes, of each the lowest first, the last one filled with 0. -/
def packN (bits : List Bool) (i : Nat) : Nat := num ((bits.drop (8 * i)).take 8)
def pack (bits : List Bool) : List Nat := (List.range ((bits.length + 7) / 8)).map (packN bits)
theorem pack_length (bits : List Bool) : (pack bits).length = (bits.length + 7) / 8 := by simp [pack]
theorem packN_lt (bits : List Bool) (i : Nat) : packN bits i < 256 := by
  have := num_lt ((bits.drop (8 * i)).take 8)
  have h : ((bits.drop (8 * i)).take 8).length ≤ 8 := List.length_take_le _ _
  exact Nat.lt_of_lt_of_le this (Nat.le_trans (Nat.pow_le_pow_right (by decide) h) (by decide))
theorem pack_lt (bits : List Bool) : ∀ b ∈ pack bits, b < 256 := by
  intro b hb
  obtain ⟨i, _, rfl⟩ := List.mem_map.1 hb
  exact packN_lt bits i
theorem pack_get (bits : List Bool) (i : Nat) (h : i < (bits.length + 7) / 8) : (pack bits)[i]? = some (packN bits i) := by
  simp [pack, List.getElem?_map, List.getElem?_range h]
theorem packN_snoc_lt (bits : List Bool) (x : Bool) (i : Nat) (h : 8 * i + 8 ≤ bits.length) : packN (bits ++ [x]) i = packN bits i := by
  unfold packN
  rw [List.drop_append_of_le_length (by omega), List.take_append_of_le_length (by simp; omega)]
theorem packN_snoc_at (bits : List Bool) (x : Bool) : packN (bits ++ [x]) (bits.length / 8) = packN bits (bits.length / 8) + b2n x * 2 ^ (bits.length % 8) := by
  unfold packN
  rw [List.drop_append_of_le_length (by omega), List.take_of_length_le (by simp; omega), List.take_of_length_le (by simp; omega), num_append]
  simp only [num, Nat.mul_zero, Nat.add_zero, List.length_drop]
  rw [show bits.length - 8 * (bits.length / 8) = bits.length % 8 by omega, Nat.mul_comm (b2n x)]
theorem packN_top (bits : List Bool) : packN bits (bits.length / 8) < 2 ^ (bits.length % 8) := by
  unfold packN
  have := num_lt ((bits.drop (8 * (bits.length / 8))).take 8)
  rw [List.length_take, List.length_drop] at this
  exact Nat.lt_of_lt_of_le this (Nat.pow_le_pow_right (by decide) (by omega))
theorem or_add (y k m : Nat) (h : y < 2 ^ k) (hm : m ≤ 1) : y ||| m * 2 ^ k = y + m * 2 ^ k := by
  rw [Nat.or_comm, ← Nat.shiftLeft_eq, ← Nat.shiftLeft_add_eq_or_of_lt h]; omega
theorem pack_snoc_old (bits : List Bool) (x : Bool) (h : bits.length % 8 ≠ 0) :
    pack (bits ++ [x]) = (pack bits).set (bits.length / 8) (packN bits (bits.length / 8) ||| b2n x * 2 ^ (bits.length % 8)) := by
  apply List.ext_getElem?
  intro i
  rw [or_add _ _ _ (packN_top bits) (b2n_le x), ← packN_snoc_at]
  by_cases hi : i < (bits.length + 7) / 8
  · rw [pack_get _ _ (by simp; omega)]
    by_cases he : i = bits.length / 8
    · subst he
      rw [List.getElem?_set_self (by rw [pack_length]; omega)]
    · rw [List.getElem?_set_ne (by omega), pack_get _ _ hi, packN_snoc_lt _ _ _ (by omega)]
  · rw [List.getElem?_eq_none (by rw [pack_length]; simp; omega), List.getElem?_eq_none (by rw [List.length_set, pack_length]; omega)]
theorem pack_snoc_new (bits : List Bool) (x : Bool) (h : bits.length % 8 = 0) : pack (bits ++ [x]) = pack bits ++ [b2n x] := by
  apply List.ext_getElem?
  intro i
  by_cases hi : i < (bits.length + 7) / 8
  · rw [pack_get _ _ (by simp; omega), List.getElem?_append_left (by rw [pack_length]; omega), pack_get _ _ hi, packN_snoc_lt _ _ _ (by omega)]
  · by_cases he : i = bits.length / 8
    · subst he
      have ht := packN_top bits
      rw [h] at ht
      rw [pack_get _ _ (by simp; omega), List.getElem?_append_right (by rw [pack_length]; omega), packN_snoc_at, h]
      rw [pack_length, show bits.length / 8 - (bits.length + 7) / 8 = 0 by omega]
      simp
      omega
    · rw [List.getElem?_eq_none (by rw [pack_length]; simp; omega), List.getElem?_eq_none (by rw [List.length_append, pack_length]; simp; omega)]
end Mq
