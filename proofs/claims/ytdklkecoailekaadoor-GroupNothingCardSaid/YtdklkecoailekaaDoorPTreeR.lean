/- Reading a symbol by a code: plain, no program. -/
import Derived.Test.YtdklkecoailekaaDoorPTree
set_option linter.unusedVariables false
namespace Mq

/-- How many symbols have length n. -/
def cN (l : List Int) (n : Nat) : Nat := (l.filter (· == (n : Int))).length
/-- How many have one of the lengths 1 to k - 1. -/
def cumN (l : List Int) : Nat → Nat
  | 0 => 0
  | k + 1 => cumN l k + (if k = 0 then 0 else cN l k)
theorem cntT_get (l : List Int) (n : Nat) (h0 : 0 < n) (h : n < 16) : (cntT l)[n]? = some ((cN l n : Nat) : Int) := by
  unfold cntT cN
  rw [List.getElem?_set_ne (by omega), cntL_get l n h]
theorem cumN_le_step (l : List Int) (n : Int) (k : Nat) (hn : 0 ≤ n) : cumN (n :: l) k = cumN l k + (if 0 < n ∧ n < k then 1 else 0) := by
  induction k with
  | zero => simp only [cumN]; rw [if_neg (by omega)]
  | succ k ih =>
    simp only [cumN, ih]
    by_cases hk : k = 0
    · subst hk
      simp only [if_pos]
      rw [if_neg (by omega), if_neg (by omega)]
    · rw [if_neg hk, if_neg hk]
      have hf : cN (n :: l) k = cN l k + (if n = (k : Int) then 1 else 0) := by
        unfold cN
        rw [List.filter_cons]
        by_cases he : n = (k : Int)
        · rw [if_pos he, if_pos (by simpa using he)]; simp
        · rw [if_neg he, if_neg (by simpa using he)]; simp
      rw [hf]
      repeat' split
      all_goals omega
theorem cumN_many (l : List Int) (h : inRange l) : cumN l 16 = many l := by
  induction l with
  | nil => rfl
  | cons n r ih =>
    have hn := h n (by simp)
    rw [cumN_le_step r n 16 hn.1, ih (fun x hx => h x (by simp [hx])), many]
    by_cases h0 : 0 < n
    · rw [if_pos h0, if_pos (by omega)]; omega
    · rw [if_neg h0, if_neg (by omega)]; omega
theorem cumN_mono (l : List Int) (a b : Nat) (h : a ≤ b) : cumN l a ≤ cumN l b := by
  induction b with
  | zero => rw [Nat.le_zero.1 h]; exact Nat.le_refl _
  | succ b ih =>
    by_cases he : a = b + 1
    · rw [he]; exact Nat.le_refl _
    · have := ih (by omega)
      simp only [cumN]
      omega

/-- One bit after the other, f of them at most: n bits next; 'at' symbols are shorter, 'first' is the first code of that length, less one bit; v is what is read. -/
def treeGo (l : List Int) : Nat → Nat → Nat → Nat → Nat → List Bool → Except Nat (Int × List Bool)
  | 0, _, _, _, _, _ => .error 3
  | _ + 1, _, _, _, _, [] => .error 2
  | f + 1, n, at_, fi, v, b :: r =>
    if 2 * v + b2n b - 2 * fi < cN l n then .ok ((orderOf l).getD (at_ + (2 * v + b2n b) - 2 * fi) 0, r)
    else treeGo l f (n + 1) (at_ + cN l n) (2 * fi + cN l n) (2 * v + b2n b) r
/-- Tree.Read. -/
def treeRead (l : List Int) (rest : List Bool) : Except Nat (Int × List Bool) :=
  if (oneV l).2 then .ok ((orderOf l).getD 0 0, rest) else treeGo l 15 1 0 0 0 rest
/-- Tree.Cost: a symbol's bits; -1: it has no code. -/
def costOf (l : List Int) (s : Int) : Int := if 0 ≤ s ∧ s < l.length ∧ 0 < l.getD s.toNat 0 then (if (oneV l).2 then 0 else l.getD s.toNat 0) else -1
/-- The n lowest bits of a code, the highest first. -/
def codeBits (c : Nat) : Nat → List Bool
  | 0 => []
  | k + 1 => (c / 2 ^ k % 2 == 1) :: codeBits c k
theorem codeBits_length (c : Nat) : ∀ k, (codeBits c k).length = k
  | 0 => rfl
  | k + 1 => by simp [codeBits, codeBits_length c k]
/-- What Tree.Write writes. -/
def symBits (l : List Int) (s : Int) : List Bool := codeBits ((codesOf l).getD s.toNat 0) (costOf l s).toNat
end Mq
