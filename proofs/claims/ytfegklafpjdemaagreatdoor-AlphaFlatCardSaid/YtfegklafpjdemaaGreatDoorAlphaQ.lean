/- Alpha planes: what a byte may be, by the gradient; all ways together. -/
import Derived.Test.YtfegklafpjdemaaGreatDoorAlphaG
set_option linter.unusedVariables false
namespace Go.Proofs.YtfegklafpjdemaaGreatDoor
open Go.RowKit Go Go.Proofs.YtfegklafpjdemaaGreatDoorW Mq

theorem clampI_neg (z : Int) (h : z < 0) : clampI z = 0 := if_pos h
theorem clampI_big (z : Int) (h : 255 < z) : clampI z = 255 := by
  unfold clampI
  rw [if_neg (by omega), if_pos h]
theorem clampI_mid (z : Int) (h : 0 ≤ z) (h2 : z ≤ 255) : clampI z = z.toNat := by
  unfold clampI
  rw [if_neg (by omega), if_neg (by omega)]
/-- A box of two cells, kept. -/
def Box2 (W1 : World) (B : Nat) (v0 v1 : Value) (w' : World) : Prop := w'.cell? ⟨B, 0, none⟩ = some v0 ∧ w'.cell? ⟨B, 1, none⟩ = some v1 ∧ St [] [] W1 w'
theorem box2_keep {W1 wc w1 : World} {B : Nat} {v0 v1 : Value} (h : wc.cell? ⟨B, 0, none⟩ = some v0 ∧ wc.cell? ⟨B, 1, none⟩ = some v1 ∧ St [] [] W1 wc) (k : St [] [] wc w1) (hB : B < W1.heap.size) :
    w1.cell? ⟨B, 0, none⟩ = some v0 ∧ w1.cell? ⟨B, 1, none⟩ = some v1 ∧ St [] [] W1 w1 :=
  ⟨(k.cell (p := ⟨B, 0, none⟩) (Nat.lt_of_lt_of_le hB h.2.2.size) (by simp)).trans h.1, (k.cell (p := ⟨B, 1, none⟩) (Nat.lt_of_lt_of_le hB h.2.2.size) (by simp)).trans h.2.1, h.2.2.trans k⟩

set_option maxHeartbeats 1000000 in
set_option maxRecDepth 8000 in
theorem guess_grad (w : World) (A : Option Addr) (c n W x y m m1 va vb vd v : Nat) (bs : List Nat) (X Y : Int) (hX : X = x + 1) (hY : Y = y + 1) (h : Rd w A (u8s bs)) (hn : bs.length = n) (hm : y * W = m) (hm1 : (y + 1) * W = m1) (hk : m1 + (x + 1) < n) (hmm : m ≤ m1)
    (hl : n ≤ 1099511627776) (hW : W ≤ 1099511627776) (hy : y + 1 ≤ 1099511627776) (ha : bs.getD (m1 + x) 0 = va) (hb : bs.getD (m + (x + 1)) 0 = vb) (hd : bs.getD (m + x) 0 = vd) (ha8 : va < 256) (hb8 : vb < 256) (hd8 : vd < 256)
    (hv : clampI ((va : Int) + vb - vd) = v) :
    Calls Tryz.prog 19 #[.agg #[.int .i64 W, .slice A n c], .int .i64 3, .int .i64 X, .int .i64 Y] w (GPost w v) := by
  have h1 : (X == 0) = false := by simp; omega
  have h2 : (Y == 0) = false := by simp; omega
  have b1 : 1 ≤ X := by omega
  have b2 : X ≤ 1099511627777 := by omega
  have b3 : 1 ≤ Y := by omega
  have b4 : Y ≤ 1099511627777 := by omega
  have HN := Lib.hid hn
  have HM := Lib.hid hm
  have HM1 := Lib.hid hm1
  have HR := Lib.hid (h.keep ((St.refl [] w).alloc (.cells #[.int .i64 W, .slice A n c] 44 (0, 0))) (Off.nil _))
  have HY := Lib.hid hY
  have HX := Lib.hid hX
  have HA := Lib.hid ha
  have HB := Lib.hid hb
  have HD := Lib.hid hd
  have HV := Lib.hid hv
  clear hn h hY hX hm hm1 ha hb hd hv
  go_enter Tryz.func19, Tryz.ntmps19
  go_wp2_with fail
  obtain ⟨W1, hW1⟩ : ∃ W1, w.alloc (.cells #[.int .i64 W, .slice A n c] 44 (0, 0)) = W1 := ⟨_, rfl⟩
  have hB : w.heap.size < W1.heap.size := by rw [← hW1, World.size_alloc]; omega
  have c0 : W1.cell? ⟨w.heap.size, 0, none⟩ = some (.int .i64 W) := by rw [← hW1]; exact (blk_cell (blk_new w _) 0)
  have c1 : W1.cell? ⟨w.heap.size, 1, none⟩ = some (.slice A n c) := by rw [← hW1]; exact (blk_cell (blk_new w _) 1)
  have s0 : St [] [] w W1 := by rw [← hW1]; exact (St.refl [] w).alloc _
  have sr := St.refl [] W1
  rw [hW1] at HR ⊢
  have S0 := Lib.hid s0
  clear s0 hW1
  have T1 : ∀ W', St [] [] W1 W' → Calls Tryz.prog 27 #[.agg #[.int .i64 W, .slice A n c], .int .i64 (X - 1), .int .i64 Y] W' fun e w' => e = .returned (.int .i64 (va : Int)) ∧ St [] [] W' w' := fun W' k => at_calls W' A n c bs W x (y + 1) m1 va (X - 1) Y (by have := HX.out; omega) (by have := HY.out; omega) (HR.out.keep k (Off.nil _)) HN.out HM1.out (by omega) hl hW (by omega) HA.out ha8
  have T2 : ∀ W', St [] [] W1 W' → Calls Tryz.prog 27 #[.agg #[.int .i64 W, .slice A n c], .int .i64 X, .int .i64 (Y - 1)] W' fun e w' => e = .returned (.int .i64 (vb : Int)) ∧ St [] [] W' w' := fun W' k => at_calls W' A n c bs W (x + 1) y m vb X (Y - 1) (by have := HX.out; omega) (by have := HY.out; omega) (HR.out.keep k (Off.nil _)) HN.out HM.out (by omega) hl hW (by omega) HB.out hb8
  have T3 : ∀ W', St [] [] W1 W' → Calls Tryz.prog 27 #[.agg #[.int .i64 W, .slice A n c], .int .i64 (X - 1), .int .i64 (Y - 1)] W' fun e w' => e = .returned (.int .i64 (vd : Int)) ∧ St [] [] W' w' := fun W' k => at_calls W' A n c bs W x y m vd (X - 1) (Y - 1) (by have := HX.out; omega) (by have := HY.out; omega) (HR.out.keep k (Off.nil _)) HN.out HM.out (by omega) hl hW (by omega) HD.out hd8
  have U1 := Lib.hid T1
  have U2 := Lib.hid T2
  have U3 := Lib.hid T3
  clear T1 T2 T3
  have z1 : IntKind.i64.wrap (X - 1) = X - 1 := IntWalk.i64_in _ (by omega)
  have z2 : IntKind.i64.wrap (Y - 1) = Y - 1 := IntWalk.i64_in _ (by omega)
  have z3 : IntKind.i64.wrap ((va : Int) + vb) = (va : Int) + vb := IntWalk.i64_in _ (by omega)
  have z4 : IntKind.i64.wrap ((va : Int) + vb - vd) = (va : Int) + vb - vd := IntWalk.i64_in _ (by omega)
  clear sr
  go_region_held3 (fun w' => w'.cell? ⟨w.heap.size, 0, none⟩ = some (.int .i64 W) ∧ w'.cell? ⟨w.heap.size, 1, none⟩ = some (.slice A n c) ∧ St [] [] W1 w')
    (first | exact ⟨c0, c1, (St.refl [] W1).drew⟩ | (refine box2_keep ?_ hst hB; first | assumption | (go_split_ands; refine ⟨?_, ?_, ?_⟩ <;> assumption)) | go_keep)
    (first
      | (go_at_call 27; (with_reducible refine Calls.mono (U1.out _ ?_) ?_); (first | assumption | (go_split_ands; assumption)); rintro e w1 ⟨rfl, hst⟩)
      | (go_at_call 27; (with_reducible refine Calls.mono (U2.out _ ?_) ?_); (first | assumption | (go_split_ands; assumption)); rintro e w1 ⟨rfl, hst⟩)
      | (go_at_call 27; (with_reducible refine Calls.mono (U3.out _ ?_) ?_); (first | assumption | (go_split_ands; assumption)); rintro e w1 ⟨rfl, hst⟩))
  go_split_ands
  go_wp2
  all_goals
    go_ret
    refine ⟨congrArg (fun z => Ending.returned (.int .u8 z)) ?_, S0.out.trans (by assumption)⟩
    have hq := HV.out
    first
      | (rw [clampI_neg _ (by omega)] at hq; omega)
      | (rw [clampI_big _ (by omega)] at hq; omega)
      | (rw [clampI_mid _ (by omega) (by omega)] at hq; omega)

theorem idx_up (y W x : Nat) (h : 1 ≤ y) : y * W + x - W = (y - 1) * W + x := by
  obtain ⟨z, rfl⟩ : ∃ z, y = z + 1 := ⟨y - 1, by omega⟩
  rw [Nat.add_mul]
  simp
  omega
theorem guess_calls (w : World) (A : Option Addr) (n c : Nat) (bs : List Nat) (W f x y : Nat) (F X Y : Int) (hF : F = f) (hX : X = x) (hY : Y = y) (h : Rd w A (u8s bs)) (hn : bs.length = n) (h8 : ∀ b ∈ bs, b < 256) (hf : f ≤ 3) (hk : y * W + x < n)
    (hl : n ≤ 1099511627776) (hW : W ≤ 1099511627776) (hW0 : 0 < W) (hy : y ≤ 1099511627776) :
    Calls Tryz.prog 19 #[.agg #[.int .i64 W, .slice A n c], .int .i64 F, .int .i64 X, .int .i64 Y] w (GPost w (aguess bs W f x y)) := by
  have hg := getD_lt bs h8
  by_cases h0 : f = 0 ∨ (x = 0 ∧ y = 0)
  · have e : aguess bs W f x y = 0 := by unfold aguess; rw [if_pos h0]
    rw [e]
    exact guess_zero w A c n W F X Y (by omega)
  by_cases hy0 : y = 0
  · subst hy0
    obtain rfl : Y = 0 := by omega
    have e : aguess bs W f x 0 = bs.getD (0 + (x - 1)) 0 := by
      unfold aguess
      rw [if_neg h0, if_pos (Or.inl rfl)]
      congr 1
      omega
    rw [e]
    exact guess_row w A c n W (x - 1) _ bs F X (by omega) h hn (by omega) (by omega) hl hW rfl (hg _)
  by_cases hx0 : x = 0
  · subst hx0
    obtain rfl : X = 0 := by omega
    have e : aguess bs W f 0 y = bs.getD ((y - 1) * W + 0) 0 := by
      unfold aguess
      rw [if_neg h0, if_neg (by omega), if_pos (Or.inl rfl), idx_up y W 0 (by omega)]
    rw [e]
    have hi := idx_up y W 0 (by omega)
    exact guess_col w A c n W (y - 1) _ _ bs F Y (by omega) h hn (by omega) rfl (by omega) hl hW (by omega) rfl (hg _)
  by_cases hf1 : f = 1
  · subst hf1
    obtain rfl : F = 1 := by omega
    have e : aguess bs W 1 x y = bs.getD (y * W + (x - 1)) 0 := by
      unfold aguess
      rw [if_neg h0, if_pos (Or.inr ⟨by omega, rfl⟩)]
      congr 1
      omega
    rw [e]
    exact guess_left w A c n W (x - 1) (y - 1) (y * W) _ bs X Y (by omega) (by omega) h hn (by rw [show y - 1 + 1 = y by omega]) (by omega) hl hW (by omega) rfl (hg _)
  by_cases hf2 : f = 2
  · subst hf2
    obtain rfl : F = 2 := by omega
    have e : aguess bs W 2 x y = bs.getD ((y - 1) * W + (x - 1 + 1)) 0 := by
      unfold aguess
      rw [if_neg h0, if_neg (by omega), if_pos (Or.inr rfl), idx_up y W x (by omega), show x - 1 + 1 = x by omega]
    rw [e]
    have hi := idx_up y W x (by omega)
    exact guess_up w A c n W (x - 1) (y - 1) _ _ bs X Y (by omega) (by omega) h hn rfl (by omega) hl hW (by omega) rfl (hg _)
  · obtain rfl : f = 3 := by omega
    obtain rfl : F = 3 := by omega
    have hi := idx_up y W x (by omega)
    have e : aguess bs W 3 x y = clampI ((bs.getD (y * W + (x - 1)) 0 : Int) + (bs.getD ((y - 1) * W + (x - 1 + 1)) 0 : Int) - (bs.getD ((y - 1) * W + (x - 1)) 0 : Int)) := by
      unfold aguess
      rw [if_neg h0, if_neg (by omega), if_neg (by omega), hi, show x - 1 + 1 = x by omega, show y * W + x - 1 = y * W + (x - 1) by omega, show (y - 1) * W + x - 1 = (y - 1) * W + (x - 1) by omega]
    rw [e]
    exact guess_grad w A c n W (x - 1) (y - 1) ((y - 1) * W) (y * W) _ _ _ _ bs X Y (by omega) (by omega) h hn rfl (by rw [show y - 1 + 1 = y by omega]) (by omega) (Nat.mul_le_mul_right W (by omega)) hl hW (by omega) rfl rfl rfl (hg _) (hg _) (hg _) rfl
end Go.Proofs.YtfegklafpjdemaaGreatDoor
