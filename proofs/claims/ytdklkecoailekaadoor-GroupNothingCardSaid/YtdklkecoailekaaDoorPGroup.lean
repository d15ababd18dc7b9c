/- Tokens, and what a group reads: no program. -/
import Derived.Test.YtdklkecoailekaaDoorPTreeR
namespace Mq
/-- A step of a picture. -/
structure Tok where
  kind : Int
  len : Int
  dist : Int
  index : Int
  argb : Nat
def tok0 : Tok := ⟨0, 0, 0, 0, 0⟩
theorem order_getD (l : List Int) (i : Nat) : 0 ≤ (orderOf l).getD i 0 ∧ ((orderOf l).getD i 0 < l.length ∨ (orderOf l).getD i 0 = 0) := by
  cases h : (orderOf l)[i]? with
  | none => simp [h]
  | some x =>
    have := orderOf_mem l x (List.mem_of_getElem? h)
    simp [h]
    omega
theorem treeGo_bound (l : List Int) : ∀ (f n a b v : Nat) (rest : List Bool) (s : Int) (r : List Bool), treeGo l f n a b v rest = .ok (s, r) → 0 ≤ s ∧ (s < l.length ∨ s = 0)
  | 0, _, _, _, _, _, _, _, h => by simp [treeGo] at h
  | f + 1, _, _, _, _, [], _, _, h => by simp [treeGo] at h
  | f + 1, n, a, b, v, c :: rest, s, r, h => by
    simp only [treeGo] at h
    split at h
    · injection h with h
      injection h with h1 h2
      rw [← h1]
      exact order_getD l _
    · exact treeGo_bound l f _ _ _ _ rest s r h
theorem treeRead_bound (l : List Int) (rest : List Bool) (s : Int) (r : List Bool) (h : treeRead l rest = .ok (s, r)) : 0 ≤ s ∧ (s < l.length ∨ s = 0) := by
  unfold treeRead at h
  split at h
  · injection h with h
    injection h with h1 h2
    rw [← h1]
    exact order_getD l _
  · exact treeGo_bound l _ _ _ _ _ _ s r h
theorem treeGo_err (l : List Int) : ∀ (f n a b v : Nat) (rest : List Bool) (e : Nat), treeGo l f n a b v rest = .error e → e = 2 ∨ e = 3
  | 0, _, _, _, _, _, _, h => by simp [treeGo] at h; omega
  | f + 1, _, _, _, _, [], _, h => by simp [treeGo] at h; omega
  | f + 1, n, a, b, v, c :: rest, e, h => by
    simp only [treeGo] at h
    split at h
    · cases h
    · exact treeGo_err l f _ _ _ _ rest e h
theorem treeRead_err (l : List Int) (rest : List Bool) (e : Nat) (h : treeRead l rest = .error e) : e = 2 ∨ e = 3 := by
  unfold treeRead at h
  split at h
  · cases h
  · exact treeGo_err l _ _ _ _ _ _ e h
/-- A pixel of four. -/
def makeN (a r g b : Nat) : Nat := a * 16777216 + r * 65536 + g * 256 + b
/-- Group.literal: the tree of reds, of blues, of alphas. -/
def litRead (ls : Nat → List Int) (green : Nat) (rest : List Bool) : Except Nat (Tok × List Bool) :=
  match treeRead (ls 1) rest with
  | .error e => .error e
  | .ok (x, r1) => match treeRead (ls 2) r1 with
    | .error e => .error e
    | .ok (y, r2) => match treeRead (ls 3) r2 with
      | .error e => .error e
      | .ok (z, r3) => .ok (⟨1, 0, 0, 0, makeN z.toNat x.toNat green y.toNat⟩, r3)
theorem many_pos : ∀ l : List Int, inRange l → l.any nz = true → 0 < many l
  | [], _, h => by simp at h
  | x :: r, hr, h => by
    have hx := hr x (by simp)
    by_cases h0 : 0 < x
    · simp only [many, if_pos h0]; omega
    · have hz : x = 0 := by omega
      have : r.any nz = true := by
        rw [List.any_cons] at h
        simpa [nz, hz] using h
      have := many_pos r (fun y hy => hr y (by simp [hy])) this
      simp only [many]; omega
/-- A tree with one symbol has one. -/
theorem oneV_many (l : List Int) (hr : inRange l) (h : (oneV l).2 = true) : 0 < many l := by
  unfold oneV at h
  by_cases hn : idxI nz l < 0
  · simp [hn] at h
  · exact many_pos l hr ((idxI_none nz l).1 (by omega))
end Mq
