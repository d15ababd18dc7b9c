/- pixel.Make, pixel.Parts. -/
import Derived.Test.YtdklkecoailekaaDoorGroupN
set_option linter.unusedVariables false
namespace Go.Proofs.YtdklkecoailekaaDoor
open Go.RowKit Go Go.Shelf Go.Proofs.YtdklkecoailekaaDoorW Mq

theorem u32_or_nat (a b : Nat) (ha : a < 4294967296) (hb : b < 4294967296) : bits BinOp.or IntKind.u32 (a : Int) (b : Int) = ((a ||| b : Nat) : Int) := by
  have hx : a ||| b < 2 ^ 32 := Nat.or_lt_two_pow (by omega) (by omega)
  have h1 : (BitVec.ofInt 32 (a : Int)).toNat = a := by
    rw [BitVec.ofInt_natCast, BitVec.toNat_ofNat]; exact Nat.mod_eq_of_lt (by omega)
  have h2 : (BitVec.ofInt 32 (b : Int)).toNat = b := by
    rw [BitVec.ofInt_natCast, BitVec.toNat_ofNat]; exact Nat.mod_eq_of_lt (by omega)
  show IntKind.u32.wrap ((BitVec.ofInt 32 (a : Int) ||| BitVec.ofInt 32 (b : Int)).toNat : Int) = _
  rw [BitVec.toNat_or, h1, h2, IntKind.wrap_u32]
  omega
theorem or_add (y x k : Nat) (hx : x < 2 ^ k) : y * 2 ^ k ||| x = y * 2 ^ k + x := by
  have h := Nat.shiftLeft_add_eq_or_of_lt hx y
  rw [Nat.shiftLeft_eq] at h
  exact h.symm
theorem four_or (a r g b : Nat) (ha : a < 256) (hr : r < 256) (hg : g < 256) (hb : b < 256) :
    bits BinOp.or IntKind.u32 (bits BinOp.or IntKind.u32 (bits BinOp.or IntKind.u32 ((a : Int) * 16777216) ((r : Int) * 65536)) ((g : Int) * 256)) (b : Int) = ((a * 16777216 + r * 65536 + g * 256 + b : Nat) : Int) := by
  have e1 : (a : Int) * 16777216 = ((a * 16777216 : Nat) : Int) := by omega
  have e2 : (r : Int) * 65536 = ((r * 65536 : Nat) : Int) := by omega
  have e3 : (g : Int) * 256 = ((g * 256 : Nat) : Int) := by omega
  have h1 : a * 16777216 ||| r * 65536 = a * 16777216 + r * 65536 := or_add a (r * 65536) 24 (by omega)
  have h2 : (a * 16777216 + r * 65536) ||| g * 256 = a * 16777216 + r * 65536 + g * 256 := by
    have := or_add (a * 256 + r) (g * 256) 16 (by omega)
    rw [show (a * 256 + r) * 2 ^ 16 = a * 16777216 + r * 65536 by omega] at this
    exact this
  have h3 : (a * 16777216 + r * 65536 + g * 256) ||| b = a * 16777216 + r * 65536 + g * 256 + b := by
    have := or_add (a * 65536 + r * 256 + g) b 8 (by omega)
    rw [show (a * 65536 + r * 256 + g) * 2 ^ 8 = a * 16777216 + r * 65536 + g * 256 by omega] at this
    exact this
  rw [e1, e2, e3, u32_or_nat _ _ (by omega) (by omega), h1, u32_or_nat _ _ (by omega) (by omega), h2, u32_or_nat _ _ (by omega) (by omega), h3]
theorem make_calls (w : World) (a r g b : Nat) (ha : a < 256) (hr : r < 256) (hg : g < 256) (hb : b < 256) :
    Calls Tryd.prog 32 #[.int .u8 a, .int .u8 r, .int .u8 g, .int .u8 b] w fun e w' => e = .returned (.int .u32 (a * 16777216 + r * 65536 + g * 256 + b : Nat)) ∧ w = w' := by
  go_enter Tryd.func32, Tryd.ntmps32
  go_wp2
  go_ret
  exact ⟨congrArg (fun x => Ending.returned (.int .u32 x)) (four_or a r g b ha hr hg hb), rfl⟩
theorem pixparts_calls (w : World) (p : Nat) (hp : p < 4294967296) :
    Calls Tryd.prog 35 #[.int .u32 p] w fun e w' => e = .returned (.tuple #[.int .u8 (p / 16777216 : Nat), .int .u8 (p / 65536 % 256 : Nat), .int .u8 (p / 256 % 256 : Nat), .int .u8 (p % 256 : Nat)]) ∧ w = w' := by
  go_enter Tryd.func35, Tryd.ntmps35
  go_wp2
  refine bodyPost_ret (v := .tuple #[.int .u8 ((p : Int) / 16777216), .int .u8 ((p : Int) / 65536 % 256), .int .u8 ((p : Int) / 256 % 256), .int .u8 ((p : Int) % 256)]) (by simp [results, show Tryd.f35.results = #[.tmp 2, .tmp 3, .tmp 4, .tmp 5] from rfl]) rfl ?_
  exact ⟨rfl, rfl⟩
/-- Tree.Read, of a tree with one symbol and of any other. -/
theorem tread_calls (w : World) (t p : Nat) (F G : List Nat) (l : List Int) (rest : List Bool) (h : IsT w t F l) (hr : IsR w p G rest false) (hd : p ∉ F) (hm : (oneV l).2 = true → 0 < many l) :
    Calls Tryd.prog 19 #[.pointer (some ⟨t, 0, none⟩), .pointer (some ⟨p, 0, none⟩)] w fun e w' => RPost w p G (treeRead l rest) e w' := by
  cases ho : (oneV l).2
  · have := tread_many w t p F G l rest h hr ho hd
    unfold treeRead
    rw [ho]
    exact this
  · refine (tread_one w t p F G l rest h hr ho (hm ho)).mono ?_
    rintro e w' ⟨rfl, rfl⟩
    unfold treeRead RPost
    rw [ho]
    exact ⟨St.refl _ _, rfl, hr⟩
end Go.Proofs.YtdklkecoailekaaDoor
