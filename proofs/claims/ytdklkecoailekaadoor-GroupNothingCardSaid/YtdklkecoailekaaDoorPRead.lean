/- Bytes as bits: plain lemmas, no program. -/
import Derived.Test.YtdklkecoailekaaDoorPBits
set_option linter.unusedVariables false
namespace Mq

def unpack (bs : List Nat) : List Bool := bs.flatMap (bitsOf 8)
theorem unpack_length (bs : List Nat) : (unpack bs).length = 8 * bs.length := by
  unfold unpack
  induction bs with
  | nil => rfl
  | cons b r ih => simp [ih, bitsOf_length]; omega
theorem unpack_nil : unpack [] = [] := rfl
theorem unpack_cons (b : Nat) (r : List Nat) : unpack (b :: r) = bitsOf 8 b ++ unpack r := by simp [unpack]
theorem unpack_append (a b : List Nat) : unpack (a ++ b) = unpack a ++ unpack b := by simp [unpack]
theorem unpack_drop (bs : List Nat) (i : Nat) : (unpack bs).drop (8 * i) = unpack (bs.drop i) := by
  induction i generalizing bs with
  | zero => rfl
  | succ i ih =>
    cases bs with
    | nil => simp [unpack]
    | cons b r =>
      rw [unpack_cons, List.drop_succ_cons, ← ih, show 8 * (i + 1) = (bitsOf 8 b).length + 8 * i by rw [bitsOf_length]; omega, List.drop_append]
      simp
theorem num_drop (l : List Bool) (k : Nat) : num (l.drop k) = num l / 2 ^ k := by
  induction k generalizing l with
  | zero => simp
  | succ k ih =>
    cases l with
    | nil => simp [num]
    | cons b r =>
      rw [List.drop_succ_cons, ih, num, Nat.pow_succ, Nat.mul_comm (2 ^ k) 2, ← Nat.div_div_eq_div_mul]
      congr 1
      have := b2n_lt b
      omega
theorem num_take (l : List Bool) (k : Nat) : num (l.take k) = num l % 2 ^ k := by
  have h := List.take_append_drop k l
  by_cases hk : k ≤ l.length
  · have e : num l = num (l.take k) + 2 ^ k * num (l.drop k) := by
      conv => lhs; rw [← h]
      rw [num_append, List.length_take, Nat.min_eq_left hk]
    rw [e, Nat.add_mul_mod_self_left, Nat.mod_eq_of_lt]
    have := num_lt (l.take k)
    rwa [List.length_take, Nat.min_eq_left hk] at this
  · rw [List.take_of_length_le (by omega), Nat.mod_eq_of_lt]
    exact Nat.lt_of_lt_of_le (num_lt l) (Nat.pow_le_pow_right (by decide) (by omega))
/-- The rest of the byte in which bit number 'at' lies. -/
theorem unpack_byte (bs : List Nat) (at_ y : Nat) (hy : bs[at_ / 8]? = some y) (h8 : y < 256) :
    num (((unpack bs).drop at_).take (8 - at_ % 8)) = y / 2 ^ (at_ % 8) := by
  have hlt : at_ / 8 < bs.length := (List.getElem?_eq_some_iff.1 hy).1
  have e : (unpack bs).drop at_ = ((unpack bs).drop (8 * (at_ / 8))).drop (at_ % 8) := by rw [List.drop_drop]; congr 1; omega
  rw [e, unpack_drop, List.drop_eq_getElem_cons hlt, unpack_cons]
  have hg : bs[at_ / 8] = y := (List.getElem?_eq_some_iff.1 hy).2
  rw [hg, List.drop_append_of_le_length (by rw [bitsOf_length]; omega), List.take_append_of_le_length (by rw [List.length_drop, bitsOf_length]; omega),
    List.take_of_length_le (by rw [List.length_drop, bitsOf_length]; omega), num_drop, num_bitsOf]
  rw [Nat.mod_eq_of_lt (by omega)]
/-- One round of the reader. -/
theorem read_round (rest : List Bool) (n k V z m : Nat) (hk : k < n) (hn : n ≤ 32) (hl : n ≤ rest.length) (hm : 1 ≤ m) (hm8 : m ≤ 8) (hV : V = num (rest.take k)) (hz : num ((rest.drop k).take m) = z) (hz8 : z < 256) (hlen : k + m ≤ n ∨ n < k + m) :
    (V ||| z * 2 ^ k) < 2 ^ (k + 8) ∧ (V ||| z * 2 ^ k) % 2 ^ (min (k + m) n) = num (rest.take (min (k + m) n)) ∧ (k + m < n → (V ||| z * 2 ^ k) = num (rest.take (k + m))) := by
  have hVlt : V < 2 ^ k := by
    have := num_lt (rest.take k)
    rw [List.length_take, Nat.min_eq_left (by omega)] at this
    omega
  have hor : V ||| z * 2 ^ k = V + z * 2 ^ k := by
    rw [Nat.or_comm, ← Nat.shiftLeft_eq, ← Nat.shiftLeft_add_eq_or_of_lt hVlt, Nat.add_comm]
  have hsum : V + z * 2 ^ k = num ((rest.take k) ++ ((rest.drop k).take m)) := by
    rw [num_append, ← hV, hz, List.length_take, Nat.min_eq_left (by omega), Nat.mul_comm]
  have htk : (rest.take k) ++ ((rest.drop k).take m) = rest.take (k + m) := by rw [List.take_add]
  rw [htk] at hsum
  refine ⟨?_, ?_, fun _ => by rw [hor, hsum]⟩
  · rw [hor, Nat.pow_add]
    have : (z + 1) * 2 ^ k ≤ 2 ^ 8 * 2 ^ k := Nat.mul_le_mul_right _ (by omega)
    rw [Nat.add_mul, Nat.one_mul, Nat.mul_comm (2 ^ 8)] at this
    omega
  · rw [hor, hsum, ← num_take, List.take_take]
    congr 2
    omega
end Mq
