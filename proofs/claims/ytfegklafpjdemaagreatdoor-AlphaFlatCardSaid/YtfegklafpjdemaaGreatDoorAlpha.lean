/- Alpha planes: contracts of what the filters are made of. -/
import Derived.Test.YtfegklafpjdemaaGreatDoorU8
import Derived.Test.YtfegklafpjdemaaGreatDoorPAlpha
import Derived.IntWalk
set_option linter.unusedVariables false
namespace Go.Proofs.YtfegklafpjdemaaGreatDoor
open Go.RowKit Go Go.Proofs.YtfegklafpjdemaaGreatDoorW Mq

def sideB (n : Int) : Bool := decide (1 ≤ n) && decide (n ≤ 16384)
theorem sideB_true {n : Int} (h : sideB n = true) : 1 ≤ n ∧ n ≤ 16384 := by unfold sideB at h; simpa using h
theorem side_calls (w : World) (c : Int) : Calls Tryz.prog 25 #[.int .i64 c] w fun e w' => e = .returned (.bool (sideB c)) ∧ w = w' := by
  by_cases h : 1 ≤ c
  · go_enter Tryz.func25, Tryz.ntmps25
    go_wp2
    go_ret
    exact ⟨by unfold sideB; simp [h], rfl⟩
  · go_enter Tryz.func25, Tryz.ntmps25
    go_wp2
    go_ret
    exact ⟨by unfold sideB; simp [h]; intros; omega, rfl⟩
def filtB (n : Int) : Bool := decide (0 ≤ n) && decide (n ≤ 3)
theorem filtB_true {n : Int} (h : filtB n = true) : 0 ≤ n ∧ n ≤ 3 := by unfold filtB at h; simpa using h
theorem filter_calls (w : World) (c : Int) : Calls Tryz.prog 17 #[.int .i64 c] w fun e w' => e = .returned (.bool (filtB c)) ∧ w = w' := by
  by_cases h : 0 ≤ c
  · go_enter Tryz.func17, Tryz.ntmps17
    go_wp2
    go_ret
    exact ⟨by unfold filtB; simp [h], rfl⟩
  · go_enter Tryz.func17, Tryz.ntmps17
    go_wp2
    go_ret
    exact ⟨by unfold filtB; simp [h]; intros; omega, rfl⟩
def goodB (W H : Int) (n : Nat) : Bool := sideB W && (sideB H && decide ((n : Int) = W * H))
theorem prod_le {W H : Int} (hW : 1 ≤ W ∧ W ≤ 16384) (hH : 1 ≤ H ∧ H ≤ 16384) : 1 ≤ W * H ∧ W * H ≤ 268435456 := by
  constructor
  · have := Int.mul_le_mul hW.1 hH.1 (by omega) (by omega)
    omega
  · have := Int.mul_le_mul hW.2 hH.2 (by omega) (by omega)
    omega
theorem goodB_true {W H : Int} {n : Nat} (h : goodB W H n = true) : (1 ≤ W ∧ W ≤ 16384) ∧ (1 ≤ H ∧ H ≤ 16384) ∧ (n : Int) = W * H := by
  unfold goodB at h
  simp only [Bool.and_eq_true, decide_eq_true_eq] at h
  exact ⟨sideB_true h.1, sideB_true h.2.1, h.2.2⟩
theorem good_calls (w : World) (W H : Int) (A : Option Addr) (n c : Nat) : Calls Tryz.prog 16 #[.agg #[.int .i64 W, .int .i64 H, .slice A n c]] w fun e w' => e = .returned (.bool (goodB W H n)) ∧ St [] [] w w' := by
  cases hW : sideB W
  · have HW := Lib.hid hW
    clear hW
    go_enter Tryz.func16, Tryz.ntmps16
    go_wp2_with (go_at_call 25; refine (side_calls _ _).mono ?_; rintro e w' ⟨rfl, rfl⟩; rw [HW.out])
    go_ret
    exact ⟨by unfold goodB; rw [HW.out]; rfl, (St.refl [] w).alloc _⟩
  · cases hH : sideB H
    · have HW := Lib.hid hW
      have HH := Lib.hid hH
      clear hW hH
      go_enter Tryz.func16, Tryz.ntmps16
      go_wp2_with (go_at_call 25; refine (side_calls _ _).mono ?_; rintro e w' ⟨rfl, rfl⟩; first | rw [HW.out] | rw [HH.out])
      go_ret
      exact ⟨by unfold goodB; rw [HW.out, HH.out]; rfl, (St.refl [] w).alloc _⟩
    · have hp := prod_le (sideB_true hW) (sideB_true hH)
      have p1 := hp.1
      have p2 := hp.2
      have HW := Lib.hid hW
      have HH := Lib.hid hH
      clear hW hH hp
      go_enter Tryz.func16, Tryz.ntmps16
      go_wp2_with (go_at_call 25; refine (side_calls _ _).mono ?_; rintro e w' ⟨rfl, rfl⟩; first | rw [HW.out] | rw [HH.out])
      go_ret
      exact ⟨by unfold goodB; rw [HW.out, HH.out, Bool.true_and, Bool.true_and]; refine congrArg (fun x => Ending.returned (.bool x)) ?_; rw [Bool.eq_iff_iff]; simp, (St.refl [] w).alloc _⟩
end Go.Proofs.YtfegklafpjdemaaGreatDoor
