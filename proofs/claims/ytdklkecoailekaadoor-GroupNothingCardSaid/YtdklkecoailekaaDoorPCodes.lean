/- Canonical codes: plain, no program. -/
import Derived.Test.YtdklkecoailekaaDoorPSort
set_option linter.unusedVariables false
namespace Mq

theorem ssort_sorted (key : Int → Int) (xs : List Int) : (ssort key xs).Pairwise (fun a b => key a ≤ key b) := by
  have h := List.pairwise_mergeSort (le := fun a b => decide (key a ≤ key b)) (by intro a b c; simp; omega) (by intro a b; simp; omega) xs
  refine h.imp ?_
  intro a b hab
  simpa using hab
theorem order_rise (l : List Int) (i : Nat) (x y : Int) (hx : (orderOf l)[i]? = some x) (hy : (orderOf l)[i + 1]? = some y) : lenAt l x ≤ lenAt l y := by
  have h := List.pairwise_iff_getElem.1 (ssort_sorted (lenAt l) (posIdx l))
  obtain ⟨h1, e1⟩ := List.getElem?_eq_some_iff.1 hx
  obtain ⟨h2, e2⟩ := List.getElem?_eq_some_iff.1 hy
  have := h i (i + 1) h1 h2 (by omega)
  unfold orderOf at e1 e2
  rw [e1, e2] at this
  exact this

structure CS where
  first : Bool
  next : Nat
  last : Int
  out : List Nat
def cstep (l : List Int) (s : CS) (x : Int) : CS :=
  let n := if s.first then s.next else (s.next + 1) % 4294967296 * 2 ^ (lenAt l x - s.last).toNat % 4294967296
  ⟨false, n, lenAt l x, s.out.set x.toNat n⟩
def csAt (l : List Int) (k : Nat) : CS := ((orderOf l).take k).foldl (cstep l) ⟨true, 0, 0, List.replicate l.length 0⟩
/-- code.Codes, of complete lengths. -/
def codesOf (l : List Int) : List Nat := (csAt l (orderOf l).length).out
theorem csAt_zero (l : List Int) : csAt l 0 = ⟨true, 0, 0, List.replicate l.length 0⟩ := rfl
theorem csAt_succ (l : List Int) (k : Nat) (x : Int) (h : (orderOf l)[k]? = some x) : csAt l (k + 1) = cstep l (csAt l k) x := by
  unfold csAt
  rw [take_snoc _ k x h, List.foldl_append]
  rfl
theorem csAt_ok (l : List Int) (k : Nat) (hk : k ≤ (orderOf l).length) : (csAt l k).first = (k == 0) ∧ (csAt l k).next < 4294967296 ∧ (csAt l k).out.length = l.length ∧ (∀ c ∈ (csAt l k).out, c < 4294967296) := by
  induction k with
  | zero =>
    rw [csAt_zero]
    refine ⟨rfl, by simp, by simp, ?_⟩
    intro c hc
    have := List.eq_of_mem_replicate hc
    omega
  | succ k ih =>
    obtain ⟨h1, h2, h3, h4⟩ := ih (by omega)
    rw [csAt_succ l k _ (List.getElem?_eq_getElem (by omega))]
    have hn : (if (csAt l k).first then (csAt l k).next else ((csAt l k).next + 1) % 4294967296 * 2 ^ (lenAt l (orderOf l)[k] - (csAt l k).last).toNat % 4294967296) < 4294967296 := by
      split
      · exact h2
      · exact Nat.mod_lt _ (by decide)
    refine ⟨by simp [cstep], hn, by simp [cstep, h3], ?_⟩
    intro c hc
    simp only [cstep] at hc
    rcases List.mem_or_eq_of_mem_set hc with h | h
    · exact h4 c h
    · rw [h]; exact hn
theorem csAt_last (l : List Int) (k : Nat) (x : Int) (h : (orderOf l)[k]? = some x) : (csAt l (k + 1)).last = lenAt l x := by
  rw [csAt_succ l k x h]; rfl
theorem codesOf_length (l : List Int) : (codesOf l).length = l.length := (csAt_ok l _ (Nat.le_refl _)).2.2.1
theorem codesOf_lt (l : List Int) : ∀ c ∈ codesOf l, c < 4294967296 := (csAt_ok l _ (Nat.le_refl _)).2.2.2
end Mq
