/- Alpha planes: a byte of a plane, and what it may be. -/
import Derived.Test.YtfegklafpjdemaaGreatDoorAlpha
import Derived.Deep.RegionHeld3
import Derived.WalkLawsBesides
set_option linter.unusedVariables false
namespace Go.Proofs.YtfegklafpjdemaaGreatDoor
open Go.RowKit Go Go.Proofs.YtfegklafpjdemaaGreatDoorW Mq

set_option maxHeartbeats 400000 in
theorem at_calls (w : World) (A : Option Addr) (n c : Nat) (bs : List Nat) (W x y m v : Nat) (X Y : Int) (hX : X = x) (hY : Y = y) (h : Rd w A (u8s bs)) (hn : bs.length = n) (hm : y * W = m) (hk : m + x < n) (hl : n ≤ 1099511627776)
    (hW : W ≤ 1099511627776) (hy : y ≤ 1099511627776) (hv : bs.getD (m + x) 0 = v) (hv8 : v < 256) :
    Calls Tryz.prog 27 #[.agg #[.int .i64 W, .slice A n c], .int .i64 X, .int .i64 Y] w fun e w' => e = .returned (.int .i64 (v : Int)) ∧ St [] [] w w' := by
  obtain ⟨b, o, rfl, hb, hc⟩ := rd_u8 h (by omega)
  have hm' : Y * (W : Int) = (m : Int) := by rw [← hm, hY]; exact (Int.natCast_mul y W).symm
  have c0 := hc (m + x) (by omega)
  rw [hv] at c0
  have e1 : ((m : Int) + X).toNat = m + x := by omega
  have b1 : 0 ≤ X := by omega
  have b2 : X ≤ 1099511627776 := by omega
  have b3 : 0 ≤ (m : Int) + X := by omega
  have b4 : (m : Int) + X < n := by omega
  have b5 : 0 ≤ Y := by omega
  have HX := Lib.hid hX
  have HY := Lib.hid hY
  clear hm hc h hX hY hn hv
  go_enter Tryz.func27, Tryz.ntmps27
  go_wp2
  go_ret
  exact ⟨rfl, (St.refl [] w).alloc _⟩

/-- The value of a guess. -/
def GPost (w : World) (v : Nat) (e : Ending) (w' : World) : Prop := e = .returned (.int .u8 (v : Int)) ∧ St [] [] w w'
theorem guess_zero (w : World) (A : Option Addr) (c n W : Nat) (F X Y : Int) (h0 : F = 0 ∨ (X = 0 ∧ Y = 0)) :
    Calls Tryz.prog 19 #[.agg #[.int .i64 W, .slice A n c], .int .i64 F, .int .i64 X, .int .i64 Y] w (GPost w 0) := by
  by_cases hf : F = 0
  · subst hf
    clear h0
    go_enter Tryz.func19, Tryz.ntmps19
    go_wp2
    go_ret
    exact ⟨rfl, (St.refl [] w).alloc _⟩
  · obtain ⟨rfl, rfl⟩ : X = 0 ∧ Y = 0 := by rcases h0 with h0 | h0; exact absurd h0 hf; exact h0
    have h1 : (F == 0) = false := by simp; omega
    clear h0 hf
    go_enter Tryz.func19, Tryz.ntmps19
    go_wp2
    go_ret
    exact ⟨rfl, (St.refl [] w).alloc _⟩
theorem guess_row (w : World) (A : Option Addr) (c n W x v : Nat) (bs : List Nat) (F X : Int) (hX : X = x + 1) (h : Rd w A (u8s bs)) (hn : bs.length = n) (hF : F ≠ 0) (hk : x < n) (hl : n ≤ 1099511627776) (hW : W ≤ 1099511627776) (hv : bs.getD (0 + x) 0 = v) (hv8 : v < 256) :
    Calls Tryz.prog 19 #[.agg #[.int .i64 W, .slice A n c], .int .i64 F, .int .i64 X, .int .i64 0] w (GPost w v) := by
  have h1 : (F == 0) = false := by simp; omega
  have h2 : (X == 0) = false := by simp; omega
  have b1 : 1 ≤ X := by omega
  have b2 : X ≤ 1099511627777 := by omega
  have HV := Lib.hid hv
  have HN := Lib.hid hn
  have HR := Lib.hid (h.keep ((St.refl [] w).alloc (.cells #[.int .i64 W, .slice A n c] 44 (0, 0))) (Off.nil _))
  have HX := Lib.hid hX
  clear hv hn h hX hF
  go_enter Tryz.func19, Tryz.ntmps19
  go_wp2_with (go_at_call 27; refine (at_calls _ A n c bs W x 0 0 v (X - 1) 0 (by have := HX.out; omega) rfl HR.out HN.out (Nat.zero_mul _) (by omega) hl hW (by omega) HV.out hv8).mono ?_; rintro e w1 ⟨rfl, hst⟩; have K := Lib.hid hst; clear hst)
  go_ret
  exact ⟨rfl, ((St.refl [] w).alloc _).trans K.out⟩
theorem guess_col (w : World) (A : Option Addr) (c n W y m v : Nat) (bs : List Nat) (F Y : Int) (hY : Y = y + 1) (h : Rd w A (u8s bs)) (hn : bs.length = n) (hF : F ≠ 0) (hm : y * W = m) (hk : m < n) (hl : n ≤ 1099511627776) (hW : W ≤ 1099511627776) (hy : y ≤ 1099511627776) (hv : bs.getD (m + 0) 0 = v) (hv8 : v < 256) :
    Calls Tryz.prog 19 #[.agg #[.int .i64 W, .slice A n c], .int .i64 F, .int .i64 0, .int .i64 Y] w (GPost w v) := by
  have h1 : (F == 0) = false := by simp; omega
  have h2 : (Y == 0) = false := by simp; omega
  have b1 : 1 ≤ Y := by omega
  have b2 : Y ≤ 1099511627777 := by omega
  have HV := Lib.hid hv
  have HN := Lib.hid hn
  have HM := Lib.hid hm
  have HR := Lib.hid (h.keep ((St.refl [] w).alloc (.cells #[.int .i64 W, .slice A n c] 44 (0, 0))) (Off.nil _))
  have HY := Lib.hid hY
  clear hv hn h hY hF hm
  go_enter Tryz.func19, Tryz.ntmps19
  go_wp2_with (go_at_call 27; refine (at_calls _ A n c bs W 0 y m v 0 (Y - 1) rfl (by have := HY.out; omega) HR.out HN.out HM.out (by omega) hl hW (by omega) HV.out hv8).mono ?_; rintro e w1 ⟨rfl, hst⟩; have K := Lib.hid hst; clear hst)
  go_ret
  exact ⟨rfl, ((St.refl [] w).alloc _).trans K.out⟩
theorem guess_left (w : World) (A : Option Addr) (c n W x y m v : Nat) (bs : List Nat) (X Y : Int) (hX : X = x + 1) (hY : Y = y + 1) (h : Rd w A (u8s bs)) (hn : bs.length = n) (hm : (y + 1) * W = m) (hk : m + x < n) (hl : n ≤ 1099511627776) (hW : W ≤ 1099511627776) (hy : y + 1 ≤ 1099511627776) (hv : bs.getD (m + x) 0 = v) (hv8 : v < 256) :
    Calls Tryz.prog 19 #[.agg #[.int .i64 W, .slice A n c], .int .i64 1, .int .i64 X, .int .i64 Y] w (GPost w v) := by
  have h1 : (X == 0) = false := by simp; omega
  have h2 : (Y == 0) = false := by simp; omega
  have b1 : 1 ≤ X := by omega
  have b2 : X ≤ 1099511627777 := by omega
  have b3 : 1 ≤ Y := by omega
  have b4 : Y ≤ 1099511627777 := by omega
  have HV := Lib.hid hv
  have HN := Lib.hid hn
  have HM := Lib.hid hm
  have HR := Lib.hid (h.keep ((St.refl [] w).alloc (.cells #[.int .i64 W, .slice A n c] 44 (0, 0))) (Off.nil _))
  have HY := Lib.hid hY
  have HX := Lib.hid hX
  clear hv hn h hY hX hm
  go_enter Tryz.func19, Tryz.ntmps19
  go_wp2_with (go_at_call 27; refine (at_calls _ A n c bs W x (y + 1) m v (X - 1) Y (by have := HX.out; omega) (by have := HY.out; omega) HR.out HN.out HM.out hk hl hW hy HV.out hv8).mono ?_; rintro e w1 ⟨rfl, hst⟩; have K := Lib.hid hst; clear hst)
  go_ret
  exact ⟨rfl, ((St.refl [] w).alloc _).trans K.out⟩
theorem guess_up (w : World) (A : Option Addr) (c n W x y m v : Nat) (bs : List Nat) (X Y : Int) (hX : X = x + 1) (hY : Y = y + 1) (h : Rd w A (u8s bs)) (hn : bs.length = n) (hm : y * W = m) (hk : m + (x + 1) < n) (hl : n ≤ 1099511627776) (hW : W ≤ 1099511627776) (hy : y ≤ 1099511627776) (hv : bs.getD (m + (x + 1)) 0 = v) (hv8 : v < 256) :
    Calls Tryz.prog 19 #[.agg #[.int .i64 W, .slice A n c], .int .i64 2, .int .i64 X, .int .i64 Y] w (GPost w v) := by
  have h1 : (X == 0) = false := by simp; omega
  have h2 : (Y == 0) = false := by simp; omega
  have b1 : 1 ≤ X := by omega
  have b2 : X ≤ 1099511627777 := by omega
  have b3 : 1 ≤ Y := by omega
  have b4 : Y ≤ 1099511627777 := by omega
  have HV := Lib.hid hv
  have HN := Lib.hid hn
  have HM := Lib.hid hm
  have HR := Lib.hid (h.keep ((St.refl [] w).alloc (.cells #[.int .i64 W, .slice A n c] 44 (0, 0))) (Off.nil _))
  have HY := Lib.hid hY
  have HX := Lib.hid hX
  clear hv hn h hY hX hm
  go_enter Tryz.func19, Tryz.ntmps19
  go_wp2_with (go_at_call 27; refine (at_calls _ A n c bs W (x + 1) y m v X (Y - 1) (by have := HX.out; omega) (by have := HY.out; omega) HR.out HN.out HM.out hk hl hW hy HV.out hv8).mono ?_; rintro e w1 ⟨rfl, hst⟩; have K := Lib.hid hst; clear hst)
  go_ret
  exact ⟨rfl, ((St.refl [] w).alloc _).trans K.out⟩
end Go.Proofs.YtfegklafpjdemaaGreatDoor
