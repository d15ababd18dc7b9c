/- Lengths with a single one: no program. -/
import Derived.Test.YtdklkecoailekaaDoorPGroup
namespace Mq
/-- Lengths with a single one. -/
def oneAt (n k : Nat) : List Int := (List.replicate n 0).set k 1
theorem oneAt_length (n k : Nat) : (oneAt n k).length = n := by simp [oneAt]
theorem oneAt_eq (n k : Nat) (h : k < n) : oneAt n k = List.replicate k 0 ++ 1 :: List.replicate (n - (k + 1)) 0 := by
  unfold oneAt
  apply List.ext_getElem?
  intro i
  rcases Nat.lt_trichotomy i k with h1 | h1 | h1
  · rw [List.getElem?_set_ne (by omega), List.getElem?_append_left (by simpa using h1), List.getElem?_replicate, List.getElem?_replicate, if_pos (by omega), if_pos h1]
  · subst h1
    rw [List.getElem?_set_self (by simpa using h), List.getElem?_append_right (by simp)]
    simp
  · rw [List.getElem?_set_ne (by omega), List.getElem?_append_right (by simp; omega), List.getElem?_replicate, List.length_replicate]
    obtain ⟨j, hj⟩ : ∃ j, i - k = j + 1 := ⟨i - k - 1, by omega⟩
    rw [hj, List.getElem?_cons_succ, List.getElem?_replicate]
    by_cases h2 : i < n
    · rw [if_pos h2, if_pos (by omega)]
    · rw [if_neg h2, if_neg (by omega)]
theorem many_zeros : ∀ n, many (List.replicate n 0) = 0
  | 0 => rfl
  | n + 1 => by rw [List.replicate_succ]; simp only [many]; rw [many_zeros n]; rfl
theorem many_append (a b : List Int) : many (a ++ b) = many a + many b := by
  induction a with
  | nil => simp [many]
  | cons x r ih => simp only [List.cons_append, many, ih]; omega
theorem oneAt_many (n k : Nat) (h : k < n) : many (oneAt n k) = 1 := by
  rw [oneAt_eq n k h, many_append, many_zeros]
  simp only [many]
  rw [many_zeros]
  rfl
theorem oneAt_range (n k : Nat) : inRange (oneAt n k) := by
  intro x hx
  rcases List.mem_or_eq_of_mem_set hx with h1 | h1
  · have := List.eq_of_mem_replicate h1; omega
  · omega
theorem oneAt_check (n k : Nat) (h : k < n) : checkE (oneAt n k) = 0 := by
  unfold checkE
  rw [if_pos (oneAt_range n k), oneAt_many n k h]
  rfl
theorem posFrom_zeros : ∀ n i, posFrom (List.replicate n 0) i = []
  | 0, _ => rfl
  | n + 1, i => by rw [List.replicate_succ]; simp only [posFrom]; rw [posFrom_zeros n]; rfl
theorem oneAt_order (n k : Nat) (h : k < n) : orderOf (oneAt n k) = [(k : Int)] := by
  have hp : posIdx (oneAt n k) = [(k : Int)] := by
    unfold posIdx
    rw [oneAt_eq n k h, posFrom_append, posFrom_zeros]
    simp only [posFrom]
    rw [posFrom_zeros]
    simp
  unfold orderOf
  rw [hp]
  exact ssort_small _ _ (Nat.le_refl _)
theorem oneAt_one (n k : Nat) (h : k < n) : (oneV (oneAt n k)).2 = true := by
  have hi : idxI nz (oneAt n k) = (k : Int) := by
    unfold idxI
    rw [oneAt_eq n k h, firstIx_skip nz _ _ _ (fun x hx => by rw [List.eq_of_mem_replicate hx]; rfl)]
    simp [firstIx, nz]
  have hd : (oneAt n k).drop (k + 1) = List.replicate (n - (k + 1)) 0 := by
    rw [oneAt_eq n k h, List.drop_append, List.drop_eq_nil_of_le (by simp)]
    simp
  unfold oneV
  rw [hi]
  have hf : (List.replicate (n - (k + 1)) (0 : Int)).any nz = false := by
    rw [List.any_eq_false]
    intro x hx
    rw [List.eq_of_mem_replicate hx]
    decide
  rw [if_neg (by omega)]
  simp only [Int.toNat_natCast, hd, hf]
  rfl
theorem oneAt_cost (n k : Nat) (h : k < n) : costOf (oneAt n k) k = 0 := by
  unfold costOf
  rw [Int.toNat_natCast, oneAt_length]
  have hg : (oneAt n k).getD k 0 = 1 := by simp [oneAt, h]
  rw [hg, if_pos ⟨by omega, by omega, by omega⟩, oneAt_one n k h]
  rfl
theorem oneAt_none (n k s : Nat) (h : s ≠ k) : costOf (oneAt n k) s = -1 := by
  unfold costOf
  rw [Int.toNat_natCast, oneAt_length]
  have hg : (oneAt n k).getD s 0 = 0 := by
    simp [oneAt, List.getElem?_set_ne (Ne.symm h), List.getElem?_replicate]
    split <;> rfl
  rw [hg, if_neg (by omega)]
end Mq
