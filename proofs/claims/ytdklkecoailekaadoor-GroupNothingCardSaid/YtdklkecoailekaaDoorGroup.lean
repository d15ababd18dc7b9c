/- group: may, wide, Sizes, New. -/
import Derived.Test.YtdklkecoailekaaDoorTreeR
set_option linter.unusedVariables false
namespace Mq
/-- May a cache have so many bits? -/
def mayC (c : Int) : Bool := decide (0 ≤ c) && decide (c ≤ 11)
/-- May a picture be so wide? -/
def wideC (n : Int) : Bool := decide (1 ≤ n) && decide (n ≤ 16384)
/-- How many greens. -/
def greensOf (c : Int) : Int := 280 + (if 0 < c then 2 ^ c.toNat else 0)
theorem greens_lt (c : Int) (h : c ≤ 11) : 280 ≤ greensOf c ∧ greensOf c ≤ 2328 := by
  unfold greensOf
  split
  · have h2 : (2 : Int) ^ c.toNat = ((2 ^ c.toNat : Nat) : Int) := by rw [Int.natCast_pow]; rfl
    have h3 : 2 ^ c.toNat ≤ 2 ^ 11 := Nat.pow_le_pow_right (by decide) (by omega)
    rw [h2]
    generalize 2 ^ c.toNat = z at h3
    omega
  · omega
end Mq
namespace Go.Proofs.YtdklkecoailekaaDoor
open Go.RowKit Go Go.Shelf Go.Proofs.YtdklkecoailekaaDoorW Mq

/-- An element of one cell of an array by value. -/
theorem run_index_one {P : Program} {t e : TypeId} {n : Nat} {cs : Array Value} {i : Int} {u : Value} {d : TypeDesc} (h : P.underlying t = some (.array n e)) (hd : P.underlying e = some d) (hnd : (match d with | .struct _ | .array _ _ => false | _ => true) = true)
    (hs : (P.info? e).map (·.size) = some 1) (h0 : 0 ≤ i) (h1 : i < n) (hu : cs[i.toNat]? = some u) (w : World) : (Instr.index t (.agg cs) (.int .i64 i)).run P w = .ok u w := by
  have hb : (isAgg e).run P w = .ok false w := by
    cases d <;> simp_all [isAgg, run_underlying hd]
  obtain ⟨ti, hi, hs⟩ := Option.map_eq_some_iff.1 hs
  simp [Instr.index, run_underlying h, asIntOf, h0, h1, part, sizeOf, run_typeInfo w hi, hs, hu, hb, go_sem]
theorem may_calls (w : World) (c : Int) : Calls Tryd.prog 16 #[.int .i64 c] w fun e w' => e = .returned (.bool (mayC c)) ∧ w = w' := by
  by_cases h : 0 ≤ c
  · go_enter Tryd.func16, Tryd.ntmps16
    go_wp2
    go_ret
    exact ⟨by unfold mayC; simp [h], rfl⟩
  · go_enter Tryd.func16, Tryd.ntmps16
    go_wp2
    go_ret
    exact ⟨by unfold mayC; rw [decide_eq_false (show ¬0 ≤ c by omega)]; rfl, rfl⟩
theorem wide_calls (w : World) (c : Int) : Calls Tryd.prog 18 #[.int .i64 c] w fun e w' => e = .returned (.bool (wideC c)) ∧ w = w' := by
  by_cases h : 1 ≤ c
  · go_enter Tryd.func18, Tryd.ntmps18
    go_wp2
    go_ret
    exact ⟨by unfold wideC; simp [h], rfl⟩
  · go_enter Tryd.func18, Tryd.ntmps18
    go_wp2
    go_ret
    exact ⟨by unfold wideC; rw [decide_eq_false (show ¬1 ≤ c by omega)]; rfl, rfl⟩

/-- What Sizes answers. -/
def sizesV (c : Int) : Value := if mayC c then .agg #[.int .i64 (greensOf c), .int .i64 256, .int .i64 256, .int .i64 256, .int .i64 40] else .agg #[.int .i64 0, .int .i64 0, .int .i64 0, .int .i64 0, .int .i64 0]
theorem sizes_calls (w : World) (c : Int) : Calls Tryd.prog 14 #[.int .i64 c] w fun e w' => e = .returned (sizesV c) ∧ St [] [] w w' := by
  cases hm : mayC c
  · have HM := Lib.hid hm
    go_enter Tryd.func14, Tryd.ntmps14
    go_wp2_with (go_at_call 16; refine (may_calls _ _).mono ?_; rintro e w' ⟨rfl, rfl⟩; rw [HM.out])
    refine bodyPost_ret (results_cell_row rfl _ _ _ _ _ _ _ rfl (blk_new _ _) Tryd.underlying50 rfl (by kernel_rfl)) rfl ?_
    refine ⟨by unfold sizesV; rw [HM.out]; rfl, ?_⟩
    exact (St.refl [] w).alloc _
  · have HM := Lib.hid hm
    have hb : 0 ≤ c ∧ c ≤ 11 := by unfold mayC at hm; simpa using hm
    by_cases h0 : 0 < c
    · obtain ⟨k, rfl⟩ := Int.eq_ofNat_of_zero_le (show 0 ≤ c by omega)
      have h3 : 2 ^ k ≤ 2048 := Nat.pow_le_pow_right (n := 2) (by decide) (show k ≤ 11 by omega)
      have hk : (2 : Int) ^ k = ((2 ^ k : Nat) : Int) := by rw [Int.natCast_pow]; rfl
      have h4 : 0 ≤ (2 : Int) ^ k := by rw [hk]; exact Int.natCast_nonneg _
      have h5 : (2 : Int) ^ k ≤ 2048 := by rw [hk]; omega
      clear hk
      go_enter Tryd.func14, Tryd.ntmps14
      go_wp2_with (go_at_call 16; refine (may_calls _ _).mono ?_; rintro e w' ⟨rfl, rfl⟩; rw [HM.out])
      go_region
      go_wp2
      refine bodyPost_ret (results_cell_row rfl _ _ _ _ _ _ _ rfl (blk_old (blk_new _ _) _) Tryd.underlying50 rfl (by kernel_rfl)) rfl ?_
      refine ⟨by unfold sizesV greensOf; rw [HM.out, if_pos h0]; rfl, ?_⟩
      exact (((St.refl [] w).alloc _).alloc _).drew
    · go_enter Tryd.func14, Tryd.ntmps14
      go_wp2_with (go_at_call 16; refine (may_calls _ _).mono ?_; rintro e w' ⟨rfl, rfl⟩; rw [HM.out])
      refine bodyPost_ret (results_cell_row rfl _ _ _ _ _ _ _ rfl (blk_old (blk_new _ _) _) Tryd.underlying50 rfl (by kernel_rfl)) rfl ?_
      refine ⟨by unfold sizesV greensOf; rw [HM.out, if_neg (show ¬0 < c by omega)]; rfl, ?_⟩
      exact ((St.refl [] w).alloc _).alloc _
end Go.Proofs.YtdklkecoailekaaDoor
