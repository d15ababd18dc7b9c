/- Stable sorting, and the symbols of a code in order: plain, no program. -/
import Derived.Test.YtdklkecoailekaaDoorPCode
set_option linter.unusedVariables false
namespace Mq

/-- The stable sort. -/
def ssort (key : Int → Int) (xs : List Int) : List Int := xs.mergeSort (fun a b => decide (key a ≤ key b))
theorem ssort_small (key : Int → Int) (xs : List Int) (h : xs.length ≤ 1) : ssort key xs = xs := by
  match xs, h with
  | [], _ => exact List.mergeSort_nil
  | [a], _ => exact List.mergeSort_singleton a
theorem ssort_length (key : Int → Int) (xs : List Int) : (ssort key xs).length = xs.length := List.length_mergeSort xs
theorem ssort_mem (key : Int → Int) (xs : List Int) (x : Int) : x ∈ ssort key xs ↔ x ∈ xs := List.mem_mergeSort

/-- The places of the lengths above 0, rising: of the list behind place i. -/
def posFrom : List Int → Nat → List Int
  | [], _ => []
  | n :: r, i => if 0 < n then (i : Int) :: posFrom r (i + 1) else posFrom r (i + 1)
def posIdx (l : List Int) : List Int := posFrom l 0
theorem posFrom_append (a b : List Int) (i : Nat) : posFrom (a ++ b) i = posFrom a i ++ posFrom b (i + a.length) := by
  induction a generalizing i with
  | nil => simp [posFrom]
  | cons x r ih =>
    simp only [List.cons_append, posFrom, ih, List.length_cons]
    rw [show i + 1 + r.length = i + (r.length + 1) by omega]
    split <;> simp
theorem posIdx_snoc (l : List Int) (n : Int) : posIdx (l ++ [n]) = posIdx l ++ (if 0 < n then [(l.length : Int)] else []) := by
  unfold posIdx
  rw [posFrom_append]
  simp only [posFrom, Nat.zero_add]
theorem posFrom_length (l : List Int) (i : Nat) : (posFrom l i).length = many l := by
  induction l generalizing i with
  | nil => rfl
  | cons x r ih =>
    simp only [posFrom, many]
    split
    · simp [ih]; omega
    · simp [ih]
theorem posIdx_length (l : List Int) : (posIdx l).length = many l := posFrom_length l 0
theorem posFrom_mem (l : List Int) (i : Nat) (x : Int) : x ∈ posFrom l i → (i : Int) ≤ x ∧ x < i + l.length ∧ 0 < l.getD (x.toNat - i) 0 := by
  induction l generalizing i with
  | nil => simp [posFrom]
  | cons n r ih =>
    intro h
    have go : x ∈ posFrom r (i + 1) → (i : Int) ≤ x ∧ x < i + (n :: r).length ∧ 0 < (n :: r).getD (x.toNat - i) 0 := by
      intro h
      obtain ⟨h1, h2, h3⟩ := ih (i + 1) h
      refine ⟨by omega, by simp; omega, ?_⟩
      rw [show x.toNat - i = (x.toNat - (i + 1)) + 1 by omega]
      simpa using h3
    rw [posFrom] at h
    split at h
    · rcases List.mem_cons.1 h with rfl | h
      · exact ⟨by omega, by simp; omega, by simpa⟩
      · exact go h
    · exact go h
theorem posIdx_mem (l : List Int) (x : Int) (h : x ∈ posIdx l) : 0 ≤ x ∧ x < l.length ∧ 0 < l.getD x.toNat 0 := by
  have := posFrom_mem l 0 x h
  simpa using this
def lenAt (l : List Int) (s : Int) : Int := l.getD s.toNat 0
/-- code.Order. -/
def orderOf (l : List Int) : List Int := ssort (lenAt l) (posIdx l)
theorem orderOf_length (l : List Int) : (orderOf l).length = many l := by unfold orderOf; rw [ssort_length, posIdx_length]
theorem orderOf_mem (l : List Int) (x : Int) (h : x ∈ orderOf l) : 0 ≤ x ∧ x < l.length ∧ 0 < l.getD x.toNat 0 := posIdx_mem l x ((ssort_mem _ _ _).1 h)
end Mq
