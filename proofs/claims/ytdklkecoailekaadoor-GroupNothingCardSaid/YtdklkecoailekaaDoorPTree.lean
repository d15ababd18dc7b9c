/- A code that is read: plain, no program. -/
import Derived.Test.YtdklkecoailekaaDoorPCodes
set_option linter.unusedVariables false
namespace Mq

/-- How often each length from 0 to 15 stands in a list. -/
def cntL (l : List Int) : List Int := (List.range 16).map fun i : Nat => ((l.filter (· == (i : Int))).length : Int)
theorem cntL_length (l : List Int) : (cntL l).length = 16 := by simp [cntL]
theorem cntL_get (l : List Int) (i : Nat) (h : i < 16) : (cntL l)[i]? = some ((l.filter (· == (i : Int))).length : Int) := by
  simp [cntL, List.getElem?_map, List.getElem?_range h]
theorem cntL_nil : cntL [] = List.replicate 16 0 := by decide
theorem cntL_snoc (l : List Int) (n : Nat) (h : n < 16) : cntL (l ++ [(n : Int)]) = (cntL l).set n (((l.filter (· == (n : Int))).length : Int) + 1) := by
  apply List.ext_getElem?
  intro i
  by_cases hi : i < 16
  · rw [cntL_get _ i hi]
    by_cases he : i = n
    · subst he
      rw [List.getElem?_set_self (by rw [cntL_length]; omega), List.filter_append]
      simp
    · rw [List.getElem?_set_ne (by omega), cntL_get _ i hi, List.filter_append]
      have : List.filter (fun x => x == (i : Int)) [(n : Int)] = [] := by simp; omega
      rw [this]
      simp
  · rw [List.getElem?_eq_none (by rw [cntL_length]; omega), List.getElem?_eq_none (by rw [List.length_set, cntL_length]; omega)]
theorem cntL_bound (l : List Int) (i : Nat) : ((l.filter (· == (i : Int))).length : Int) ≤ l.length := by
  have := List.length_filter_le (fun x => x == (i : Int)) l
  omega
/-- The counts of a code: none of length 0. -/
def cntT (l : List Int) : List Int := (cntL l).set 0 0
end Mq
