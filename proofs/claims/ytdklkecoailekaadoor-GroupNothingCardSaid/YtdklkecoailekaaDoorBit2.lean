/- The writer of bits: Bits, Len, New. -/
import Derived.Test.YtdklkecoailekaaDoorBit
set_option linter.unusedVariables false
namespace Go.Proofs.YtdklkecoailekaaDoor
open Go.RowKit Go Go.Proofs.YtdklkecoailekaaDoorW Mq

theorem one_calls (w : World) (p : Nat) (F : List Nat) (bits : List Bool) (X : Int) (h : IsW w p F bits) (hb : bits.length ≤ 2 ^ 40) (h0 : 0 ≤ X) (h1 : X < 4294967296) :
    Calls Tryd.prog 38 #[.pointer (some ⟨p, 0, none⟩), .int .u32 X] w fun e w' => e = .returned (.tuple #[]) ∧
      ∃ F', IsW w' p F' (bits ++ [X.toNat % 2 == 1]) ∧ St F F' w w' := by
  obtain ⟨x, rfl⟩ := Int.eq_ofNat_of_zero_le h0
  rw [Int.toNat_natCast]
  by_cases hn : bits.length % 8 = 0
  · exact one_new w p F bits x h hn hb (by omega)
  · exact one_old w p F bits x h hn hb (by omega)

theorem bits_step (bits : List Bool) (k x : Nat) : bits ++ bitsOf k x ++ [x / 2 ^ k % 2 == 1] = bits ++ bitsOf (k + 1) x := by
  rw [bitsOf_snoc, List.append_assoc]

theorem ediv_pow_nat (x k : Nat) : ((x : Int) / 2 ^ k).toNat = x / 2 ^ k := by
  rw [show ((2 : Int) ^ k) = ((2 ^ k : Nat) : Int) by simp, ← Int.natCast_ediv, Int.toNat_natCast]
theorem ediv_pow_bounds (x k : Nat) (h : x < 4294967296) : 0 ≤ (x : Int) / 2 ^ k ∧ (x : Int) / 2 ^ k < 4294967296 := by
  have e : (x : Int) / 2 ^ k = ((x / 2 ^ k : Nat) : Int) := by
    rw [show ((2 : Int) ^ k) = ((2 ^ k : Nat) : Int) by simp, Int.natCast_ediv]
  have := Nat.div_le_self x (2 ^ k)
  rw [e]
  generalize x / 2 ^ k = q at this ⊢
  omega

set_option maxHeartbeats 400000 in
theorem wbits_calls (w : World) (p : Nat) (F : List Nat) (bits : List Bool) (X n : Int) (h : IsW w p F bits) (h0 : 0 ≤ X) (hn0 : 0 ≤ n) (hn : n ≤ 32) (hb : bits.length + n.toNat ≤ 2 ^ 40) (hx : X < 2 ^ n.toNat) :
    Calls Tryd.prog 25 #[.pointer (some ⟨p, 0, none⟩), .int .u32 X, .int .i64 n] w fun e w' => e = .returned (.bool true) ∧
      ∃ F', IsW w' p F' (bits ++ bitsOf n.toNat X.toNat) ∧ St F F' w w' := by
  obtain ⟨x, rfl⟩ := Int.eq_ofNat_of_zero_le h0
  obtain ⟨n, rfl⟩ := Int.eq_ofNat_of_zero_le hn0
  rw [Int.toNat_natCast] at hb hx
  rw [Int.toNat_natCast, Int.toNat_natCast]
  have hx' : x < 2 ^ n := by
    rw [show ((2 : Int) ^ n) = ((2 ^ n : Nat) : Int) by simp] at hx
    omega
  have hx32 : x < 4294967296 := Nat.lt_of_lt_of_le hx' (Nat.le_trans (Nat.pow_le_pow_right (by decide) (show n ≤ 32 by omega)) (by decide))
  have hdiv : (x : Int) / 2 ^ n = 0 := by
    rw [show ((2 : Int) ^ n) = ((2 ^ n : Nat) : Int) by simp, ← Int.natCast_ediv, Nat.div_eq_of_lt hx']
    rfl
  have H1 := Lib.hid h
  clear h hx hx' h0 hn0
  go_enter Tryd.func25, Tryd.ntmps25
  go_wp2_with fail
  go_loopw [7, 26] (fun u i wr => ∃ k : Nat, k ≤ n ∧ i = .int .i64 k ∧ ∃ F', IsW wr p F' (bits ++ bitsOf k x) ∧ St F F' w wr) (fun _ i _ => n - (intOf i).toNat)
  case atStart => exact ⟨0, Nat.zero_le _, rfl, F, by simpa [bitsOf] using H1.out, St.refl _ _⟩
  case round =>
    obtain ⟨k, hk, rfl, F', hW, hS⟩ := hrel
    have K1 := Lib.hid hW
    have K2 := Lib.hid hS
    clear hW hS
    by_cases hlt : k < n
    · have hb1 := ediv_pow_bounds x k hx32
      obtain ⟨hb1, hb2⟩ := hb1
      go_wp2_with (go_at_call 38; refine (one_calls _ _ _ _ _ K1.out (by rw [List.length_append, bitsOf_length]; omega) (by exact hb1) (by exact hb2)).mono ?_; rintro e w' ⟨rfl, hW2⟩; have K3 := Lib.hid hW2; clear hW2)
      go_roundw
      case rel =>
        obtain ⟨F2, a1, a2⟩ := K3.out
        rw [ediv_pow_nat, bits_step] at a1
        exact ⟨k + 1, by omega, by go_num, F2, a1, K2.out.trans a2⟩
      case measure => simp [intOf]; omega
    · obtain rfl : k = n := by omega
      go_wp2_with fail
      go_ret
      exact ⟨rfl, F', K1.out, K2.out⟩
/-- A number that is too large for so many bits, or so many that may not be. -/
theorem wlen_calls (w : World) (p : Nat) (F : List Nat) (bits : List Bool) (h : IsW w p F bits) :
    Calls Tryd.prog 12 #[.pointer (some ⟨p, 0, none⟩)] w fun e w' => e = .returned (.int .i64 (bits.length : Nat)) ∧ w = w' := by
  obtain ⟨v, hp, hv, rfl⟩ := h
  have c1 := blk_cell hp 1
  simp at c1
  clear hp hv
  go_enter Tryd.func12, Tryd.ntmps12
  go_wp2
  go_ret
  exact ⟨rfl, rfl⟩
theorem wnew_calls (w : World) :
    Calls Tryd.prog 10 #[] w fun e w' => ∃ p F, e = .returned (.pointer (some ⟨p, 0, none⟩)) ∧ IsW w' p F [] ∧ St [] F w w' := by
  go_enter Tryd.func10, Tryd.ntmps10
  go_wp2
  go_ret
  refine ⟨w.heap.size, _, rfl, ⟨.slice none 0 0, blk_new _ _, World.ownsRow_nil _ _ _ _, rfl⟩, ?_⟩
  exact ((St.refl [] w).allocTo _)
end Go.Proofs.YtdklkecoailekaaDoor
