/- The reference of the alpha filters: Same, Plane, guess, Filter. -/
import Derived.Test.YtfegklafpjdemaaGreatDoorAlphaF
import Derived.StillTailTactics
set_option linter.unusedVariables false
set_option linter.unusedSimpArgs false
namespace Go.Proofs.YtfegklafpjdemaaGreatDoor
open Go.RowKit Go Go.Proofs.YtfegklafpjdemaaGreatDoorW Mq

set_option maxHeartbeats 400000 in
theorem same_true (w : World) (A B : Option Addr) (n c d : Nat) (bs : List Nat) (hA : Rd w A (u8s bs)) (hB : Rd w B (u8s bs)) (hn : bs.length = n) (hl : n ≤ 1099511627776) :
    Calls Tryz.prog 11 #[.slice A n c, .slice B n d] w fun e w' => e = .returned (.bool true) ∧ ∃ m, w' = w.drewN m := by
  have h0 : ((n : Int) != n) = false := by simp
  have HA := Lib.hid hA
  have HB := Lib.hid hB
  have HN := Lib.hid hn
  clear hA hB hn
  go_enter Tryz.func11, Tryz.ntmps11
  go_wp2
  go_loopw [5] (fun i wr => ∃ k m : Nat, k ≤ n ∧ i = .int .i64 k ∧ wr = w.drewN m) (fun i _ => n - (intOf i).toNat)
  case atStart => exact ⟨0, 0, by omega, rfl, rfl⟩
  case round =>
    obtain ⟨k, m, hk, rfl, rfl⟩ := hrel
    by_cases hlt : k < n
    · obtain ⟨b1, o1, e1, l1, r1⟩ := rd_u8 HA.out (by have := HN.out; omega)
      obtain ⟨b2, o2, e2, l2, r2⟩ := rd_u8 HB.out (by have := HN.out; omega)
      have c1 := r1 k (by have := HN.out; omega)
      have c2 := r2 k (by have := HN.out; omega)
      clear r1 r2
      subst e1 e2
      have hd : (((bs.getD k 0 : Nat) : Int) != ((bs.getD k 0 : Nat) : Int)) = false := by simp
      go_wp2
      go_quiet (fail)
      go_wp2
      case roundEnd =>
        refine ⟨⟨k + 1, _, by omega, rfl, rfl⟩, ?_⟩
        show n - ((k : Int) + 1).toNat < n - (k : Int).toNat
        omega
    · go_wp2
      go_ret
      exact ⟨rfl, m, rfl⟩

def RGPost (w : World) (v : Nat) (e : Ending) (w' : World) : Prop := e = .returned (.int .i64 (v : Int)) ∧ ∃ m, w' = w.drewN m
theorem rguess_zero (w : World) (A : Option Addr) (c n W : Nat) (F X Y : Int) (h0 : F = 0 ∨ (X = 0 ∧ Y = 0)) (hx : 0 ≤ X ∧ X ≤ 1099511627776) (m : Nat) (hm : Y * W = m) (hmm : m ≤ 1099511627776) :
    Calls Tryz.prog 20 #[.slice A n c, .int .i64 W, .int .i64 F, .int .i64 X, .int .i64 Y] w (RGPost w 0) := by
  have x1 := hx.1
  have x2 := hx.2
  by_cases hf : F = 0
  · subst hf
    clear h0
    go_enter Tryz.func20, Tryz.ntmps20
    go_wp2
    go_ret
    exact ⟨rfl, 0, rfl⟩
  · obtain ⟨rfl, rfl⟩ : X = 0 ∧ Y = 0 := by rcases h0 with h0 | h0; exact absurd h0 hf; exact h0
    have h1 : (F == 0) = false := by simp; omega
    clear h0 hf hm
    go_enter Tryz.func20, Tryz.ntmps20
    go_wp2
    go_ret
    exact ⟨rfl, 0, rfl⟩
theorem rguess_left0 (w : World) (A : Option Addr) (c n W m K v : Nat) (bs : List Nat) (F X Y : Int) (hF : F ≠ 0) (hX : 1 ≤ X) (hY : Y = 0) (h : Rd w A (u8s bs)) (hn : bs.length = n) (hm : Y * W = m) (hK : (m : Int) + X = K) (hmm : m ≤ 1099511627776) (hx : 0 ≤ X ∧ X ≤ 1099511627776) (hkn : K < n) (hl : n ≤ 1099511627776) (hv : bs.getD (K - 1) 0 = v) (hv8 : v < 256) :
    Calls Tryz.prog 20 #[.slice A n c, .int .i64 W, .int .i64 F, .int .i64 X, .int .i64 Y] w (RGPost w v) := by
  have x1 := hx.1
  have x2 := hx.2
  subst hY
  have h1 : (F == 0) = false := by simp; omega
  have h2 : (X == 0) = false := by simp; omega
  clear hF
  have e1 : ((K : Int) - 1).toNat = K - 1 := by omega
  have e2 : 0 ≤ (K : Int) - 1 := by omega
  have e3 : (K : Int) - 1 < n := by omega
  obtain ⟨b, o, rfl, hb, hc⟩ := rd_u8 h (by omega)
  have c0 := hc (K - 1) (by omega)
  rw [hv] at c0
  clear hv hc h hn
  go_enter Tryz.func20, Tryz.ntmps20
  go_wp2
  go_ret
  exact ⟨rfl, 0, rfl⟩
theorem rguess_left1 (w : World) (A : Option Addr) (c n W m K v : Nat) (bs : List Nat) (F X Y : Int) (hF : F = 1) (hX : 1 ≤ X) (hY : 1 ≤ Y) (h : Rd w A (u8s bs)) (hn : bs.length = n) (hm : Y * W = m) (hK : (m : Int) + X = K) (hmm : m ≤ 1099511627776) (hx : 0 ≤ X ∧ X ≤ 1099511627776) (hkn : K < n) (hl : n ≤ 1099511627776) (hv : bs.getD (K - 1) 0 = v) (hv8 : v < 256) :
    Calls Tryz.prog 20 #[.slice A n c, .int .i64 W, .int .i64 F, .int .i64 X, .int .i64 Y] w (RGPost w v) := by
  have x1 := hx.1
  have x2 := hx.2
  subst hF
  have h2 : (X == 0) = false := by simp; omega
  have h3 : (Y == 0) = false := by simp; omega
  have e1 : ((K : Int) - 1).toNat = K - 1 := by omega
  have e2 : 0 ≤ (K : Int) - 1 := by omega
  have e3 : (K : Int) - 1 < n := by omega
  obtain ⟨b, o, rfl, hb, hc⟩ := rd_u8 h (by omega)
  have c0 := hc (K - 1) (by omega)
  rw [hv] at c0
  clear hv hc h hn
  go_enter Tryz.func20, Tryz.ntmps20
  go_wp2
  go_ret
  exact ⟨rfl, 0, rfl⟩
theorem rguess_up0 (w : World) (A : Option Addr) (c n W m K v : Nat) (bs : List Nat) (F X Y : Int) (hF : F ≠ 0) (hX : X = 0) (hY : 1 ≤ Y) (hWK : W ≤ K) (h : Rd w A (u8s bs)) (hn : bs.length = n) (hm : Y * W = m) (hK : (m : Int) + X = K) (hmm : m ≤ 1099511627776) (hx : 0 ≤ X ∧ X ≤ 1099511627776) (hkn : K < n) (hl : n ≤ 1099511627776) (hv : bs.getD (K - W) 0 = v) (hv8 : v < 256) :
    Calls Tryz.prog 20 #[.slice A n c, .int .i64 W, .int .i64 F, .int .i64 X, .int .i64 Y] w (RGPost w v) := by
  have x1 := hx.1
  have x2 := hx.2
  subst hX
  have h1 : (F == 0) = false := by simp; omega
  have h3 : (Y == 0) = false := by simp; omega
  clear hF
  have e1 : ((K : Int) - W).toNat = K - W := by omega
  have e2 : 0 ≤ (K : Int) - W := by omega
  have e3 : (K : Int) - W < n := by omega
  obtain ⟨b, o, rfl, hb, hc⟩ := rd_u8 h (by omega)
  have c0 := hc (K - W) (by omega)
  rw [hv] at c0
  clear hv hc h hn
  go_enter Tryz.func20, Tryz.ntmps20
  go_wp2
  go_ret
  exact ⟨rfl, 0, rfl⟩
theorem rguess_up2 (w : World) (A : Option Addr) (c n W m K v : Nat) (bs : List Nat) (F X Y : Int) (hF : F = 2) (hX : 1 ≤ X) (hY : 1 ≤ Y) (hWK : W ≤ K) (h : Rd w A (u8s bs)) (hn : bs.length = n) (hm : Y * W = m) (hK : (m : Int) + X = K) (hmm : m ≤ 1099511627776) (hx : 0 ≤ X ∧ X ≤ 1099511627776) (hkn : K < n) (hl : n ≤ 1099511627776) (hv : bs.getD (K - W) 0 = v) (hv8 : v < 256) :
    Calls Tryz.prog 20 #[.slice A n c, .int .i64 W, .int .i64 F, .int .i64 X, .int .i64 Y] w (RGPost w v) := by
  have x1 := hx.1
  have x2 := hx.2
  subst hF
  have h2 : (X == 0) = false := by simp; omega
  have h3 : (Y == 0) = false := by simp; omega
  have e1 : ((K : Int) - W).toNat = K - W := by omega
  have e2 : 0 ≤ (K : Int) - W := by omega
  have e3 : (K : Int) - W < n := by omega
  obtain ⟨b, o, rfl, hb, hc⟩ := rd_u8 h (by omega)
  have c0 := hc (K - W) (by omega)
  rw [hv] at c0
  clear hv hc h hn
  go_enter Tryz.func20, Tryz.ntmps20
  go_wp2
  go_ret
  exact ⟨rfl, 0, rfl⟩

set_option maxHeartbeats 1000000 in
theorem rguess_grad (w : World) (A : Option Addr) (c n W m K va vb vd v : Nat) (bs : List Nat) (F X Y : Int) (hF : F = 3) (hX : 1 ≤ X) (hY : 1 ≤ Y) (hWK : W + 1 ≤ K) (h : Rd w A (u8s bs)) (hn : bs.length = n) (hm : Y * W = m) (hK : (m : Int) + X = K)
    (hmm : m ≤ 1099511627776) (hx : 0 ≤ X ∧ X ≤ 1099511627776) (hkn : K < n) (hl : n ≤ 1099511627776) (ha : bs.getD (K - 1) 0 = va) (hb : bs.getD (K - W) 0 = vb) (hd : bs.getD (K - W - 1) 0 = vd) (ha8 : va < 256) (hb8 : vb < 256) (hd8 : vd < 256)
    (hv : clampI ((va : Int) + vb - vd) = v) :
    Calls Tryz.prog 20 #[.slice A n c, .int .i64 W, .int .i64 F, .int .i64 X, .int .i64 Y] w (RGPost w v) := by
  have x1 := hx.1
  have x2 := hx.2
  subst hF
  have h2 : (X == 0) = false := by simp; omega
  have h3 : (Y == 0) = false := by simp; omega
  obtain ⟨b, o, rfl, hbl, hc⟩ := rd_u8 h (by omega)
  have c0 := hc (K - 1) (by omega)
  have c1 := hc (K - W) (by omega)
  have c2 := hc (K - W - 1) (by omega)
  rw [ha] at c0
  rw [hb] at c1
  rw [hd] at c2
  have e1 : ((K : Int) - 1).toNat = K - 1 := by omega
  have e2 : 0 ≤ (K : Int) - 1 := by omega
  have e3 : (K : Int) - 1 < n := by omega
  have g1 : ((K : Int) - W).toNat = K - W := by omega
  have g2 : 0 ≤ (K : Int) - W := by omega
  have g3 : (K : Int) - W < n := by omega
  have k1 : ((K : Int) - W - 1).toNat = K - W - 1 := by omega
  have k2 : 0 ≤ (K : Int) - W - 1 := by omega
  have k3 : (K : Int) - W - 1 < n := by omega
  have HV := Lib.hid hv
  clear hv ha hb hd hc h hn
  go_enter Tryz.func20, Tryz.ntmps20
  go_wp2_with fail
  have z0 : IntKind.i64.wrap ((K : Int) - 1) = (K : Int) - 1 := IntWalk.i64_in _ (by omega)
  have z1 : IntKind.i64.wrap ((K : Int) - W) = (K : Int) - W := IntWalk.i64_in _ (by omega)
  have z2 : IntKind.i64.wrap ((K : Int) - W - 1) = (K : Int) - W - 1 := IntWalk.i64_in _ (by omega)
  have y0 : IntKind.i64.wrap (va : Int) = (va : Int) := IntWalk.i64_in _ (by omega)
  have y1 : IntKind.i64.wrap (vb : Int) = (vb : Int) := IntWalk.i64_in _ (by omega)
  have y2 : IntKind.i64.wrap (vd : Int) = (vd : Int) := IntWalk.i64_in _ (by omega)
  have z3 : IntKind.i64.wrap ((va : Int) + vb) = (va : Int) + vb := IntWalk.i64_in _ (by omega)
  have z4 : IntKind.i64.wrap ((va : Int) + vb - vd) = (va : Int) + vb - vd := IntWalk.i64_in _ (by omega)
  go_quiet (fail)
  go_wp2
  all_goals
    go_ret
    refine ⟨congrArg (fun z => Ending.returned (.int .i64 z)) ?_, _, rfl⟩
    have hq := HV.out
    first
      | (rw [clampI_neg _ (by omega)] at hq; omega)
      | (rw [clampI_big _ (by omega)] at hq; omega)
      | (rw [clampI_mid _ (by omega) (by omega)] at hq; omega)

theorem rguess_calls (w : World) (A : Option Addr) (n c : Nat) (bs : List Nat) (W f x y m : Nat) (F X Y : Int) (hF : F = f) (hX : X = x) (hY : Y = y) (h : Rd w A (u8s bs)) (hn : bs.length = n) (h8 : ∀ b ∈ bs, b < 256) (hf : f ≤ 3) (hm : y * W = m) (hk : m + x < n)
    (hl : n ≤ 1099511627776) (hW0 : 0 < W) :
    Calls Tryz.prog 20 #[.slice A n c, .int .i64 W, .int .i64 F, .int .i64 X, .int .i64 Y] w (RGPost w (aguess bs W f x y)) := by
  have hg := getD_lt bs h8
  have hmi : Y * (W : Int) = (m : Int) := by rw [hY, ← hm]; exact (Int.natCast_mul y W).symm
  have hKi : (m : Int) + X = ((m + x : Nat) : Int) := by omega
  have hWm : 1 ≤ y → W ≤ m := fun hy => by rw [← hm]; exact Nat.le_mul_of_pos_left W hy
  by_cases h0 : f = 0 ∨ (x = 0 ∧ y = 0)
  · have e : aguess bs W f x y = 0 := by unfold aguess; rw [if_pos h0]
    rw [e]
    exact rguess_zero w A c n W F X Y (by omega) (by omega) m hmi (by omega)
  by_cases hy0 : y = 0
  · have e : aguess bs W f x y = bs.getD (m + x - 1) 0 := by
      unfold aguess
      rw [if_neg h0, if_pos (Or.inl hy0), hm]
    rw [e]
    exact rguess_left0 w A c n W m (m + x) _ bs F X Y (by omega) (by omega) (by omega) h hn hmi hKi (by omega) (by omega) (by omega) hl rfl (hg _)
  by_cases hx0 : x = 0
  · have e : aguess bs W f x y = bs.getD (m + x - W) 0 := by
      unfold aguess
      rw [if_neg h0, if_neg (by omega), if_pos (Or.inl hx0), hm]
    rw [e]
    have := hWm (by omega)
    exact rguess_up0 w A c n W m (m + x) _ bs F X Y (by omega) (by omega) (by omega) (by omega) h hn hmi hKi (by omega) (by omega) (by omega) hl rfl (hg _)
  by_cases hf1 : f = 1
  · have e : aguess bs W f x y = bs.getD (m + x - 1) 0 := by
      unfold aguess
      rw [if_neg h0, if_pos (Or.inr ⟨by omega, hf1⟩), hm]
    rw [e]
    exact rguess_left1 w A c n W m (m + x) _ bs F X Y (by omega) (by omega) (by omega) h hn hmi hKi (by omega) (by omega) (by omega) hl rfl (hg _)
  have hWm' := hWm (by omega)
  by_cases hf2 : f = 2
  · have e : aguess bs W f x y = bs.getD (m + x - W) 0 := by
      unfold aguess
      rw [if_neg h0, if_neg (by omega), if_pos (Or.inr hf2), hm]
    rw [e]
    exact rguess_up2 w A c n W m (m + x) _ bs F X Y (by omega) (by omega) (by omega) (by omega) h hn hmi hKi (by omega) (by omega) (by omega) hl rfl (hg _)
  · have e : aguess bs W f x y = clampI ((bs.getD (m + x - 1) 0 : Int) + (bs.getD (m + x - W) 0 : Int) - (bs.getD (m + x - W - 1) 0 : Int)) := by
      unfold aguess
      rw [if_neg h0, if_neg (by omega), if_neg (by omega), hm]
    rw [e]
    exact rguess_grad w A c n W m (m + x) _ _ _ _ bs F X Y (by omega) (by omega) (by omega) (by omega) h hn hmi hKi (by omega) (by omega) (by omega) hl rfl rfl rfl (hg _) (hg _) (hg _) rfl

theorem plane_calls (w : World) (W H : Int) (A : Option Addr) (n c : Nat) : Calls Tryz.prog 10 #[.agg #[.int .i64 W, .int .i64 H, .slice A n c]] w fun e w' => e = .returned (.bool (goodB W H n)) ∧ St [] [] w w' := by
  by_cases h1 : 1 ≤ W
  · by_cases h2 : W ≤ 16384
    · by_cases h3 : 1 ≤ H
      · by_cases h4 : H ≤ 16384
        · have hp := prod_le ⟨h1, h2⟩ ⟨h3, h4⟩
          have p1 := hp.1
          have p2 := hp.2
          clear hp
          go_enter Tryz.func10, Tryz.ntmps10
          go_wp2
          go_ret
          exact ⟨by unfold goodB sideB; simp [h1, h2, h3, h4]; rw [Bool.eq_iff_iff]; simp, (St.refl [] w).alloc _⟩
        · go_enter Tryz.func10, Tryz.ntmps10
          go_wp2
          go_ret
          exact ⟨by unfold goodB sideB; simp; intros; omega, (St.refl [] w).alloc _⟩
      · go_enter Tryz.func10, Tryz.ntmps10
        go_wp2
        go_ret
        exact ⟨by unfold goodB sideB; simp; intros; omega, (St.refl [] w).alloc _⟩
    · go_enter Tryz.func10, Tryz.ntmps10
      go_wp2
      go_ret
      exact ⟨by unfold goodB sideB; simp; intros; omega, (St.refl [] w).alloc _⟩
  · go_enter Tryz.func10, Tryz.ntmps10
    go_wp2
    go_ret
    exact ⟨by unfold goodB sideB; simp; intros; omega, (St.refl [] w).alloc _⟩
end Go.Proofs.YtfegklafpjdemaaGreatDoor
