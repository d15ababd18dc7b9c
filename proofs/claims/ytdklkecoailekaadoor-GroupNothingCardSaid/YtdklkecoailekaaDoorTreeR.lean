/- Tree.Cost, Tree.Write, Tree.Read. -/
import Derived.Test.YtdklkecoailekaaDoorTree
import Derived.Test.YtdklkecoailekaaDoorPTreeR
import Derived.Test.YtdklkecoailekaaDoorRead
set_option linter.unusedVariables false
namespace Go.Proofs.YtdklkecoailekaaDoor
open Go.RowKit Go Go.Shelf Go.Proofs.YtdklkecoailekaaDoorW Mq

set_option maxHeartbeats 400000 in
theorem cost_calls (w : World) (t : Nat) (F : List Nat) (l : List Int) (s : Int) (h : IsT w t F l) :
    Calls Tryd.prog 23 #[.pointer (some ⟨t, 0, none⟩), .int .i64 s] w fun e w' => e = .returned (.tuple #[.int .i64 (max (costOf l s) 0), .bool (decide (0 ≤ costOf l s))]) ∧ w = w' := by
  obtain ⟨v0, v1, v3, hp, h0, h1, h3, rfl, hok, hl⟩ := h
  have hl' : l.length ≤ 8796093022208 := hl
  have hr : inRange l := by
    unfold checkE at hok
    split at hok
    · assumption
    · cases hok
  obtain ⟨A, c, rfl⟩ := Own.shape h0
  have c0 := (blk_cell hp 0).trans (treeCells_0 _ _ _ _ _)
  have c4 := (blk_cell hp 19).trans (treeCells_4 _ _ _ _ _ (by rw [cntT, List.length_set, cntL_length]))
  by_cases hs0 : s < 0
  · have hc : costOf l s = -1 := if_neg (by omega)
    rw [hc]
    clear hp h0 h1 h3 hc hr
    go_enter Tryd.func23, Tryd.ntmps23
    go_wp2
    go_ret2
    exact ⟨rfl, rfl⟩
  · obtain ⟨s, rfl⟩ := Int.eq_ofNat_of_zero_le (show 0 ≤ s by omega)
    by_cases hsl : s < l.length
    · obtain ⟨g, cap, hA, hform⟩ := World.ownsRow.form h0 (by omega)
      injection hA with hA _ _
      subst hA
      obtain ⟨x, hx⟩ : ∃ x, l[s]? = some x := ⟨_, List.getElem?_eq_getElem hsl⟩
      have hxr := hr x (List.mem_of_getElem? hx)
      obtain ⟨x, rfl⟩ := Int.eq_ofNat_of_zero_le hxr.1
      have cs : w.cell? ⟨g, s, none⟩ = some (.int .u8 (x : Int)) := by
        rw [World.ownsRow.cellAt h0 s (by omega)]; simp [u8s, lens8, hx]
      have hg : l.getD (s : Int).toNat 0 = x := by simp [hx]
      by_cases hx0 : x = 0
      · subst hx0
        have hc : costOf l s = -1 := if_neg (by rw [hg]; omega)
        rw [hc]
        clear hp h0 h1 h3 hc hr hx hg
        go_enter Tryd.func23, Tryd.ntmps23
        go_wp2
        go_ret2
        exact ⟨rfl, rfl⟩
      · have hb : ((x : Int) == 0) = false := by simp; omega
        cases ho : (oneV l).2
        · have hc : costOf l s = x := by unfold costOf; rw [if_pos (by rw [hg]; omega), ho, hg]; rfl
          rw [hc, show max (x : Int) 0 = x by omega]
          rw [ho] at c4
          clear hp h0 h1 h3 hc hr hx hg ho
          go_enter Tryd.func23, Tryd.ntmps23
          go_wp2
          go_ret2
          exact ⟨by simp, rfl⟩
        · have hc : costOf l s = 0 := by unfold costOf; rw [if_pos (by rw [hg]; omega), ho]; rfl
          rw [hc]
          rw [ho] at c4
          clear hp h0 h1 h3 hc hr hx hg ho
          go_enter Tryd.func23, Tryd.ntmps23
          go_wp2
          go_ret2
          exact ⟨rfl, rfl⟩
    · have hc : costOf l s = -1 := if_neg (by omega)
      have hsl' : l.length ≤ s := by omega
      rw [hc]
      clear hp h0 h1 h3 hc hr
      go_enter Tryd.func23, Tryd.ntmps23
      go_wp2
      go_ret2
      exact ⟨rfl, rfl⟩

/-! ### Tree.Read -/
theorem i64_or_nat (a b : Nat) (ha : a < 9223372036854775808) (hb : b < 9223372036854775808) : bits BinOp.or IntKind.i64 (a : Int) (b : Int) = ((a ||| b : Nat) : Int) := by
  have hx : a ||| b < 2 ^ 63 := Nat.or_lt_two_pow (by omega) (by omega)
  have h1 : (BitVec.ofInt 64 (a : Int)).toNat = a := by
    rw [BitVec.ofInt_natCast, BitVec.toNat_ofNat]; exact Nat.mod_eq_of_lt (by omega)
  have h2 : (BitVec.ofInt 64 (b : Int)).toNat = b := by
    rw [BitVec.ofInt_natCast, BitVec.toNat_ofNat]; exact Nat.mod_eq_of_lt (by omega)
  show IntKind.i64.wrap ((BitVec.ofInt 64 (a : Int) ||| BitVec.ofInt 64 (b : Int)).toNat : Int) = _
  rw [BitVec.toNat_or, h1, h2, IntKind.wrap_i64]
  omega
theorem or_low (v b : Nat) (hb : b ≤ 1) : v * 2 ||| b = 2 * v + b := by
  have h := Nat.shiftLeft_add_eq_or_of_lt (b := b) (i := 1) (by omega) v
  rw [Nat.shiftLeft_eq] at h
  rw [← h]
  omega
theorem i64_bit (v b : Nat) (hv : v < 4611686018427387904) (hb : b ≤ 1) : bits BinOp.or IntKind.i64 ((v : Int) * 2) (b : Int) = ((2 * v + b : Nat) : Int) := by
  rw [← or_low v b hb, ← i64_or_nat (v * 2) b (by omega) (by omega)]
  rfl

/-- What a reader is behind a call that tells a number. -/
def RPost (w : World) (p : Nat) (G : List Nat) (r : Except Nat (Int × List Bool)) (e : Ending) (w' : World) : Prop :=
  St [p] [p] w w' ∧ match r with
    | .ok (s, rest') => e = .returned (.tuple #[.int .i64 s, .int .i64 0]) ∧ IsR w' p G rest' false
    | .error er => e = .returned (.tuple #[.int .i64 0, .int .i64 (er : Nat)]) ∧ er ≠ 0 ∧ ∃ rest' ov, IsR w' p G rest' ov

set_option maxHeartbeats 1000000 in
theorem tread_one (w : World) (t p : Nat) (F G : List Nat) (l : List Int) (rest : List Bool) (h : IsT w t F l) (hr : IsR w p G rest false) (ho : (oneV l).2 = true) (hm : 0 < many l) :
    Calls Tryd.prog 19 #[.pointer (some ⟨t, 0, none⟩), .pointer (some ⟨p, 0, none⟩)] w fun e w' => e = .returned (.tuple #[.int .i64 ((orderOf l).getD 0 0), .int .i64 0]) ∧ w = w' := by
  obtain ⟨v0, v1, v3, hp, h0, h1, h3, rfl, hok, hl⟩ := h
  have c4 := (blk_cell hp 19).trans (treeCells_4 _ _ _ _ _ (by rw [cntT, List.length_set, cntL_length]))
  have c3 := (blk_cell hp 18).trans (treeCells_3 _ _ _ _ _ (by rw [cntT, List.length_set, cntL_length]))
  rw [ho] at c4
  have hol : 0 < (orderOf l).length := by rw [orderOf_length]; exact hm
  obtain ⟨g, cap, rfl, hform⟩ := World.ownsRow.form h3 hol
  obtain ⟨x, hx⟩ : ∃ x, (orderOf l)[0]? = some x := ⟨_, List.getElem?_eq_getElem hol⟩
  have cs : w.cell? ⟨g, 0, none⟩ = some (.int .i64 x) := by
    rw [World.ownsRow.cellAt h3 0 (by omega)]; simp [ints, hx]
  have hg : (orderOf l).getD 0 0 = x := by simp [hx]
  rw [hg]
  have HR := Lib.hid hr
  clear hp h0 h1 h3 hr hx hg ho hok hm
  go_enter Tryd.func19, Tryd.ntmps19
  go_wp2_with (go_at_call 30; refine (rover_calls _ _ _ _ _ HR.out).mono ?_; rintro e w' ⟨rfl, rfl⟩)
  go_ret2
  exact ⟨rfl, rfl⟩

def TRd (w : World) (p : Nat) (G : List Nat) (l : List Int) (rest : List Bool) (at_ fi v n : Value) (wr : World) : Prop :=
  ∃ (k a f x : Nat) (r : List Bool), 1 ≤ k ∧ k ≤ 16 ∧ n = .int .i64 k ∧ at_ = .int .i64 a ∧ fi = .int .i64 f ∧ v = .int .i64 x ∧ f ≤ x ∧ x < 2 ^ (k - 1) ∧ a = cumN l k ∧
    treeGo l (16 - k) k a f x r = treeGo l 15 1 0 0 0 rest ∧ IsR wr p G r false ∧ St [p] [p] w wr

set_option maxHeartbeats 1000000 in
theorem tread_many (w : World) (t p : Nat) (F G : List Nat) (l : List Int) (rest : List Bool) (h : IsT w t F l) (hr : IsR w p G rest false) (ho : (oneV l).2 = false) (hd : p ∉ F) :
    Calls Tryd.prog 19 #[.pointer (some ⟨t, 0, none⟩), .pointer (some ⟨p, 0, none⟩)] w fun e w' => RPost w p G (treeGo l 15 1 0 0 0 rest) e w' := by
  have HT := Lib.hid h
  obtain ⟨v0, v1, v3, hp, h0, h1, h3, rfl, hok, hl⟩ := h
  have c4 := (blk_cell hp 19).trans (treeCells_4 _ _ _ _ _ (by rw [cntT, List.length_set, cntL_length]))
  rw [ho] at c4
  have hrange : inRange l := by
    unfold checkE at hok
    split at hok
    · assumption
    · cases hok
  have hl' : l.length ≤ 8796093022208 := hl
  have hcm := cumN_many l hrange
  have hml := many_le l
  obtain ⟨A3, q3, rfl⟩ := Own.shape h3
  have HR := Lib.hid hr
  have HP := Lib.hid hp
  have H3 := Lib.hid h3
  have HC := Lib.hid hcm
  clear hp h0 h1 h3 hr hok hrange ho hcm
  simp only [List.mem_cons, List.mem_append, Option.mem_toList, not_or] at hd
  obtain ⟨hd1, hd2, hd3⟩ := hd
  have HD := Lib.hid hd1
  have HD3 := Lib.hid hd3
  clear hd2 hd1 hd3 hl
  go_enter Tryd.func19, Tryd.ntmps19
  go_wp2_with (go_at_call 30; refine (rover_calls _ _ _ _ _ HR.out).mono ?_; rintro e w' ⟨rfl, rfl⟩)
  go_loopw [6, 7, 8, 9, 10, 11] (fun a f v n b e wr => TRd w p G l rest a f v n wr) (fun _ _ _ n _ _ _ => 16 - (intOf n).toNat)
  case atStart => exact ⟨1, 0, 0, 0, rest, by omega, by omega, rfl, rfl, rfl, rfl, Nat.le_refl _, by simp, rfl, rfl, HR.out, St.refl _ _⟩
  case round =>
    obtain ⟨k, a, f, x, r, hk1, hk2, rfl, rfl, rfl, rfl, hfx, hx, ha, hgo, hR, hS⟩ := hrel
    have hx15 : x < 65536 := Nat.lt_of_lt_of_le hx (Nat.le_trans (Nat.pow_le_pow_right (by decide) (show k - 1 ≤ 16 by omega)) (by decide))
    have hac := cumN_mono l k 16 (by omega)
    rw [HC.out, ← ha] at hac
    by_cases hlt : k ≤ 15
    · have hp' := blk_st hS (by simp; exact fun e => HD.out e.symm) HP.out
      have hcn := (blk_cell hp' (2 + k)).trans (treeCells_cnt _ _ _ _ _ k _ (cntT_get l k (by omega) (by omega)))
      have d3 := (blk_cell hp' 18).trans (treeCells_3 _ _ _ _ _ (by rw [cntT, List.length_set, cntL_length]))
      have hgo2 := hgo
      have hcb := cumN_mono l (k + 1) 16 (by omega)
      rw [HC.out] at hcb
      simp only [cumN] at hcb
      rw [if_neg (by omega), ← ha] at hcb
      obtain ⟨g, hg⟩ : ∃ g, 15 - k = g := ⟨_, rfl⟩
      have hk16 : 16 - k = g + 1 := by omega
      rw [hk16] at hgo
      cases r with
      | nil =>
        have hres : treeGo l 15 1 0 0 0 rest = .error 2 := by rw [← hgo]; rfl
        have K1 := Lib.hid hres
        have K2 := Lib.hid hR
        have K3 := Lib.hid hS
        clear hres hR hS hgo hgo2 hcn d3 hp' hcb ha hac hx
        go_wp2_with (go_at_call 31; refine (rbits_end _ _ _ _ _ _ K2.out (by decide) (by decide) (.inr (by simp))).mono ?_; rintro e w' ⟨rfl, hq1, hq2⟩; have Q1 := Lib.hid hq1; have Q2 := Lib.hid hq2; clear hq1 hq2)
        go_ret2
        unfold RPost
        rw [K1.out]
        exact ⟨K3.out.trans Q2.out, rfl, by decide, _, _, Q1.out⟩
      | cons b r =>
        have hnum : num (List.take (Int.toNat 1) (b :: r)) = b2n b := by simp [num]
        have hb1 := b2n_le b
        have hbit := i64_bit x (b2n b) (by omega) hb1
        obtain ⟨y, hy⟩ : ∃ y, 2 * x + b2n b = y := ⟨_, rfl⟩
        have hyf : 2 * f ≤ y := by omega
        have hy2 : y < 2 ^ k := by
          have : 2 ^ k = 2 * 2 ^ (k - 1) := by rw [← Nat.pow_succ']; congr 1; omega
          omega
        rw [hy] at hbit
        have hyb : y < 131073 := by omega
        have hcut : Int.toNat 1 = 1 := rfl
        have N1 := Lib.hid hnum
        have N2 := Lib.hid hy2
        have N3 := Lib.hid hy
        have N4 := Lib.hid ha
        have K2 := Lib.hid hR
        have K3 := Lib.hid hS
        have K4 := Lib.hid hgo2
        clear hnum hy2 hcut ha hR hS hgo2
        by_cases hmt : y - 2 * f < cN l k
        · have hres : treeGo l 15 1 0 0 0 rest = .ok ((orderOf l).getD (a + y - 2 * f) 0, r) := by
            rw [← hgo]; simp only [treeGo]; rw [hy, if_pos hmt]
          have K1 := Lib.hid hres
          have hix : a + y - 2 * f < many l := by omega
          have hS2 := K3.out
          obtain ⟨gs, caps, hA, hform⟩ := World.ownsRow.form H3.out (by rw [orderOf_length]; omega)
          injection hA with hA _ _
          subst hA
          obtain ⟨z, hz⟩ : ∃ z, (orderOf l)[a + y - 2 * f]? = some z := ⟨_, List.getElem?_eq_getElem (by rw [orderOf_length]; exact hix)⟩
          have hzr : (orderOf l).getD (a + y - 2 * f) 0 = z := by simp [hz]
          have cz : wr.cell? ⟨gs, a + y - 2 * f, none⟩ = some (.int .i64 z) := by
            rw [World.ownsRow.cellAt (H3.out.keep hS2 (fun b hb hbp => HD3.out (by rw [hb, List.mem_singleton.1 hbp]))) _ (by rw [orderOf_length]; omega)]
            simp [ints, hz]
          have hgb : gs ≠ p := fun e => HD3.out (by simp [e, Value.ownBlock])
          have hbl : gs < wr.heap.size := Nat.lt_of_lt_of_le hform.2 hS2.size
          have hol : (orderOf l).length = many l := orderOf_length l
          rw [hzr] at hres
          have K1 := Lib.hid hres
          clear hgo hres hy hzr hS2 hz
          go_wp2_with (go_at_call 31; refine (rbits_ok _ _ _ _ _ K2.out (by decide) (by decide) (by rw [List.length_cons]; omega)).mono ?_; rintro e w' ⟨rfl, hq1, hq2⟩; rw [N1.out]; have hp2 := blk_st hq2 (by simp; exact fun e => HD.out e.symm) hp'; have cn2 := (blk_cell hp2 (2 + k)).trans (treeCells_cnt _ _ _ _ _ k _ (cntT_get l k (by omega) (by omega))); have d32 := (blk_cell hp2 18).trans (treeCells_3 _ _ _ _ _ (by rw [cntT, List.length_set, cntL_length])); have cz2 := (hq2.cell (p := ⟨gs, a + y - 2 * f, none⟩) hbl (by simp; exact hgb)).trans cz; rw [Nat.mul_comm 2 f] at cz2; clear hp2; have Q1 := Lib.hid hq1; have Q2 := Lib.hid hq2; clear hq1 hq2)
          go_ret2
          unfold RPost
          rw [K1.out]
          exact ⟨K3.out.trans Q2.out, rfl, Q1.out⟩
        · have hres : treeGo l (16 - (k + 1)) (k + 1) (a + cN l k) (2 * f + cN l k) y r = treeGo l 15 1 0 0 0 rest := by
            rw [← hgo, show 16 - (k + 1) = g by omega]; simp only [treeGo]; rw [hy, if_neg hmt]
          have K1 := Lib.hid hres
          clear hgo hres hy
          go_wp2_with (go_at_call 31; refine (rbits_ok _ _ _ _ _ K2.out (by decide) (by decide) (by rw [List.length_cons]; omega)).mono ?_; rintro e w' ⟨rfl, hq1, hq2⟩; rw [N1.out]; have hp2 := blk_st hq2 (by simp; exact fun e => HD.out e.symm) hp'; have cn2 := (blk_cell hp2 (2 + k)).trans (treeCells_cnt _ _ _ _ _ k _ (cntT_get l k (by omega) (by omega))); have d32 := (blk_cell hp2 18).trans (treeCells_3 _ _ _ _ _ (by rw [cntT, List.length_set, cntL_length])); clear hp2; have Q1 := Lib.hid hq1; have Q2 := Lib.hid hq2; clear hq1 hq2)
          case roundEnd =>
            have hk1' : (intOf (.int .i64 ((k : Int) + 1))).toNat = k + 1 := by show ((k : Int) + 1).toNat = k + 1; omega
            have hk0' : (intOf (.int .i64 (k : Int))).toNat = k := by show (k : Int).toNat = k; omega
            rw [hk1', hk0']
            refine ⟨⟨k + 1, a + cN l k, 2 * f + cN l k, y, r, by omega, by omega, ?_, ?_, ?_, rfl, by omega, by simpa using N2.out, ?_, K1.out, Q1.out, K3.out.trans Q2.out⟩, by omega⟩
            · exact congrArg (Value.int .i64) (by omega)
            · exact congrArg (Value.int .i64) (by omega)
            · exact congrArg (Value.int .i64) (by omega)
            · rw [cumN, if_neg (by omega), N4.out]
    · obtain rfl : k = 16 := by omega
      have hres : treeGo l 15 1 0 0 0 rest = .error 3 := by rw [← hgo]; rfl
      have K1 := Lib.hid hres
      have K2 := Lib.hid hR
      have K3 := Lib.hid hS
      clear hres hR hS hgo hx ha
      go_wp2
      go_ret2
      unfold RPost
      rw [K1.out]
      exact ⟨K3.out, rfl, by decide, _, _, K2.out⟩
end Go.Proofs.YtdklkecoailekaaDoor
