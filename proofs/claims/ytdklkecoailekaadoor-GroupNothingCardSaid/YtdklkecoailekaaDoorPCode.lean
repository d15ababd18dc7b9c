/- Codes: plain definitions and lemmas, no program. -/
import Derived.Test.YtdklkecoailekaaDoorPRead
set_option linter.unusedVariables false
namespace Mq

/-- How many of the lengths are above 0; what they sum up to, in parts of 2^15. -/
def many : List Int → Nat
  | [] => 0
  | n :: r => (if 0 < n then 1 else 0) + many r
def kraft : List Int → Nat
  | [] => 0
  | n :: r => (if 0 < n then 2 ^ (15 - n.toNat) else 0) + kraft r
def inRange (l : List Int) : Prop := ∀ n ∈ l, 0 ≤ n ∧ n ≤ 15
instance (l : List Int) : Decidable (inRange l) := by unfold inRange; infer_instance
/-- code.Check. -/
def checkE (l : List Int) : Nat := if inRange l then (if many l ≠ 1 ∧ kraft l ≠ 32768 then 3 else 0) else 8

theorem many_snoc (l : List Int) (n : Int) : many (l ++ [n]) = many l + (if 0 < n then 1 else 0) := by
  induction l with
  | nil => simp [many]
  | cons a r ih => simp only [List.cons_append, many, ih]; omega
theorem kraft_snoc (l : List Int) (n : Int) : kraft (l ++ [n]) = kraft l + (if 0 < n then 2 ^ (15 - n.toNat) else 0) := by
  induction l with
  | nil => simp [kraft]
  | cons a r ih => simp only [List.cons_append, kraft, ih]; omega
theorem many_le (l : List Int) : many l ≤ l.length := by
  induction l with
  | nil => simp [many]
  | cons a r ih => simp only [many, List.length_cons]; split <;> omega
theorem kraft_le (l : List Int) : kraft l ≤ 32768 * l.length := by
  induction l with
  | nil => simp [kraft]
  | cons a r ih =>
    simp only [kraft, List.length_cons]
    have : 2 ^ (15 - a.toNat) ≤ 2 ^ 15 := Nat.pow_le_pow_right (by decide) (by omega)
    split <;> omega
theorem take_snoc {α : Type} (l : List α) (k : Nat) (x : α) (h : l[k]? = some x) : l.take (k + 1) = l.take k ++ [x] := by
  rw [List.take_add_one, h]; rfl

/-- The first place at which p holds; -1: none. -/
def firstIx (p : Int → Bool) : List Int → Nat → Int
  | [], _ => -1
  | x :: r, i => if p x then i else firstIx p r (i + 1)
def idxI (p : Int → Bool) (l : List Int) : Int := firstIx p l 0
theorem firstIx_skip (p : Int → Bool) : ∀ (a b : List Int) (i : Nat), (∀ x ∈ a, p x = false) → firstIx p (a ++ b) i = firstIx p b (i + a.length)
  | [], b, i, _ => by simp
  | x :: r, b, i, h => by
    rw [List.cons_append, firstIx, h x (by simp), if_neg (by simp), firstIx_skip p r b (i + 1) (fun y hy => h y (by simp [hy]))]
    congr 1
    simp; omega
theorem firstIx_ge (p : Int → Bool) : ∀ (l : List Int) (i : Nat), firstIx p l i = -1 ∨ (i : Int) ≤ firstIx p l i
  | [], _ => .inl rfl
  | x :: r, i => by
    rw [firstIx]
    split
    · right; omega
    · rcases firstIx_ge p r (i + 1) with h | h
      · exact .inl h
      · right; omega
theorem idxI_none (p : Int → Bool) (l : List Int) : 0 ≤ idxI p l ↔ l.any p = true := by
  unfold idxI
  suffices h : ∀ i, 0 ≤ firstIx p l i ↔ l.any p = true from h 0
  induction l with
  | nil => intro i; simp [firstIx]
  | cons x r ih =>
    intro i
    rw [firstIx, List.any_cons]
    cases hx : p x
    · simpa using ih (i + 1)
    · simp

def nz (x : Int) : Bool := x != 0
/-- code.One. -/
def oneV (l : List Int) : Int × Bool := let i := idxI nz l; if i < 0 then (0, false) else if (l.drop (i.toNat + 1)).any nz then (0, false) else (i, true)
theorem idxI_lt (p : Int → Bool) (l : List Int) (h : 0 ≤ idxI p l) : idxI p l < l.length := by
  unfold idxI at *
  suffices hh : ∀ (l : List Int) (i : Nat), firstIx p l i < i + l.length ∨ firstIx p l i = -1 by
    rcases hh l 0 with h1 | h1 <;> omega
  intro l
  induction l with
  | nil => intro i; right; rfl
  | cons x r ih =>
    intro i
    rw [firstIx]
    split
    · left; simp; omega
    · rcases ih (i + 1) with h1 | h1
      · left; simp; omega
      · exact .inr h1
end Mq
