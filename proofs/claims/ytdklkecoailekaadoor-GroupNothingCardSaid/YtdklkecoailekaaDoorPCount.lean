/- Parts of steps, and how often each symbol is told: no program. -/
import Derived.Test.YtdklkecoailekaaDoorPGroup
namespace Mq
/-- A symbol of a code, and bits behind it. -/
structure Part where
  code : Nat
  sym : Nat
  bits : Nat
  extra : Nat
/-- One more of a symbol. -/
def bump (cnt : Nat → List Int) (c s : Nat) : Nat → List Int := fun j => if j = c then (cnt j).set s ((cnt j).getD s 0 + 1) else cnt j
theorem bump_length (cnt : Nat → List Int) (c s j : Nat) : (bump cnt c s j).length = (cnt j).length := by
  unfold bump
  split <;> simp
def countParts (cnt : Nat → List Int) : List Part → Option (Nat → List Int)
  | [] => some cnt
  | p :: r => if p.sym < (cnt p.code).length then countParts (bump cnt p.code p.sym) r else none
def countToks (ps : Tok → List Part) (cnt : Nat → List Int) : List Tok → Option (Nat → List Int)
  | [] => some cnt
  | t :: r => if (ps t).isEmpty then none else match countParts cnt (ps t) with
    | none => none
    | some c' => countToks ps c' r
/-- Each count is between nothing and m. -/
def cntIn (cnt : Nat → List Int) (m : Nat) : Prop := ∀ j, ∀ x ∈ cnt j, 0 ≤ x ∧ x ≤ m
theorem cntIn_get (cnt : Nat → List Int) (m j s : Nat) (h : cntIn cnt m) : 0 ≤ (cnt j).getD s 0 ∧ (cnt j).getD s 0 ≤ m := by
  cases hs : (cnt j)[s]? with
  | none => simp [hs]
  | some x => have := h j x (List.mem_of_getElem? hs); simpa [hs] using this
theorem cntIn_bump (cnt : Nat → List Int) (m c s : Nat) (h : cntIn cnt m) : cntIn (bump cnt c s) (m + 1) := by
  intro j x hx
  unfold bump at hx
  split at hx
  · rcases List.mem_or_eq_of_mem_set hx with h1 | h1
    · have := h j x h1; omega
    · have := cntIn_get cnt m j s h; omega
  · have := h j x hx; omega
/-- The parts of a literal. -/
def litParts (argb : Nat) : List Part := [⟨0, argb / 256 % 256, 0, 0⟩, ⟨1, argb / 65536 % 256, 0, 0⟩, ⟨2, argb % 256, 0, 0⟩, ⟨3, argb / 16777216, 0, 0⟩]
end Mq
