/- The reader of bits: contracts. -/
import Derived.Test.YtdklkecoailekaaDoorBit2
import Derived.Laws.Bits64b
set_option linter.unusedVariables false
namespace Go.Proofs.YtdklkecoailekaaDoor
open Go.RowKit Go Go.Proofs.YtdklkecoailekaaDoorW Mq

/-- A reader behind a pointer: the bits that are not read, and whether they ran out. F: what it is made of. -/
def IsR (w : World) (p : Nat) (F : List Nat) (rest : List Bool) (over : Bool) : Prop :=
  ∃ v bs at_, w.heap[p]? = some (.cells #[v, .int .i64 (at_ : Nat), .bool over] 60 (0, 0)) ∧ Own w 5 1 v bs.length (u8s bs) ∧ F = p :: v.ownBlock.toList ∧
    (∀ b ∈ bs, b < 256) ∧ at_ ≤ 8 * bs.length ∧ bs.length ≤ 281474976710656 ∧ rest = (unpack bs).drop at_
theorem IsR.keep {F F' G : List Nat} {w w' : World} {p : Nat} {rest : List Bool} {over : Bool} (h : IsR w p G rest over) (k : St F F' w w') (hd : ∀ b ∈ G, b ∉ F) : IsR w' p G rest over := by
  obtain ⟨v, bs, at_, h1, h2, rfl, h3⟩ := h
  exact ⟨v, bs, at_, blk_st k (hd p (by simp)) h1, h2.keep k (fun b hb => hd b (by simp [hb])), rfl, h3⟩
theorem IsR.lt {w : World} {p : Nat} {F : List Nat} {rest : List Bool} {over : Bool} (h : IsR w p F rest over) : ∀ b ∈ F, b < w.heap.size := by
  obtain ⟨v, bs, at_, h1, h2, rfl, h3⟩ := h
  intro b hb
  rcases List.mem_cons.1 hb with rfl | hb
  · exact blk_lt h1
  · simp at hb
    exact (World.ownsRow.lt h2 b hb).2

theorem rover_calls (w : World) (p : Nat) (F : List Nat) (rest : List Bool) (over : Bool) (h : IsR w p F rest over) :
    Calls Tryd.prog 30 #[.pointer (some ⟨p, 0, none⟩)] w fun e w' => e = .returned (.bool over) ∧ w = w' := by
  obtain ⟨v, bs, at_, hp, hv, rfl, h3⟩ := h
  have c2 := blk_cell hp 2
  simp at c2
  clear hp hv h3
  go_enter Tryd.func30, Tryd.ntmps30
  go_wp2
  go_ret
  exact ⟨rfl, rfl⟩

theorem rleft_calls (w : World) (p : Nat) (F : List Nat) (rest : List Bool) (over : Bool) (h : IsR w p F rest over) :
    Calls Tryd.prog 9 #[.pointer (some ⟨p, 0, none⟩)] w fun e w' => e = .returned (.int .i64 (if over then 0 else rest.length : Nat)) ∧ ∃ n, w' = w.drewN n := by
  obtain ⟨v, bs, at_, hp, hv, rfl, h3, h4, h5, rfl⟩ := h
  obtain ⟨A, c, rfl⟩ := Own.shape hv
  have c0 := blk_cell hp 0
  have c1 := blk_cell hp 1
  have c2 := blk_cell hp 2
  simp at c0 c1 c2
  have e1 := unpack_length bs
  rw [List.length_drop, e1]
  clear hp hv h3 e1
  cases over with
  | true =>
    go_enter Tryd.func9, Tryd.ntmps9
    go_wp2
    go_ret
    exact ⟨rfl, 0, rfl⟩
  | false =>
    go_enter Tryd.func9, Tryd.ntmps9
    go_wp2
    go_quiet (fail)
    go_wp2
    go_ret
    exact ⟨by simp; omega, _, rfl⟩

theorem rnew_calls (w : World) (A : Option Addr) (c : Nat) (bs : List Nat) (h : Rd w A (u8s bs)) (hl : bs.length ≤ 140737488355328) (h8 : ∀ b ∈ bs, b < 256) :
    Calls Tryd.prog 7 #[.slice A bs.length c] w fun e w' => ∃ p F, e = .returned (.pointer (some ⟨p, 0, none⟩)) ∧ IsR w' p F (unpack bs) false ∧ St [] F w w' := by
  have hsrc : Src Tryd.prog 1 23 (.slice A bs.length c) bs.length (u8s bs) w := Src.ofRd Tryd.underlying23 A bs.length c _ (by rw [u8s_length, Nat.mul_one]) (by decide) h (u8s_one bs)
  have H1 := Lib.hid hsrc
  clear hsrc h
  go_enter Tryd.func7, Tryd.ntmps7
  go_wp2_with (at_builtin; refine wpList_app _ rfl _ (.tmp 3) 23 23 rfl 5 (.int .u8 0) 1 1 Tryd.underlying23 Tryd.info5 rfl (by decide) _ _ _ rfl (World.ownsRow_nil _ 0 _ _) _ _ _ rfl H1.out ?_ ?_ ?_)
  · unfold maxLen; omega
  · omega
  intro v' w1 hown hg _ hat
  obtain ⟨A', c', rfl⟩ := Own.shape hown
  have K1 := Lib.hid hown
  have K2 := Lib.hid hg
  have K3 := Lib.hid hat
  clear hown hg hat
  go_wp2
  go_ret
  refine ⟨w1.heap.size, _, rfl, ⟨.slice A' bs.length c', bs, 0, blk_new _ _, World.ownsRow.alloc K1.out _, rfl, h8, Nat.zero_le _, by omega, by simp⟩, ?_⟩
  have s1 := (St.grown (F' := []) (v' := .slice A' bs.length c') (St.refl [] w) K2.out (by intro k hk; simp [Value.ownBlock] at hk) (by simpa using K3.out)).allocTo (.cells #[.slice A' bs.length c', .int .i64 0, .bool false] 60)
  exact s1.less (by intro k hk; simp at hk ⊢; omega)

theorem rbits_zero (w : World) (p : Nat) (n : Int) (hn : n = 0) :
    Calls Tryd.prog 31 #[.pointer (some ⟨p, 0, none⟩), .int .i64 n] w fun e w' => e = .returned (.tuple #[.int .u32 0, .int .i64 0]) ∧ w = w' := by
  subst hn
  go_enter Tryd.func31, Tryd.ntmps31
  go_wp2
  go_ret2
  exact ⟨rfl, rfl⟩

theorem rbits_end (w : World) (p : Nat) (F : List Nat) (rest : List Bool) (over : Bool) (n : Int) (h : IsR w p F rest over) (h0 : 0 < n) (h32 : n ≤ 32) (hl : over = true ∨ (rest.length : Int) < n) :
    Calls Tryd.prog 31 #[.pointer (some ⟨p, 0, none⟩), .int .i64 n] w fun e w' => e = .returned (.tuple #[.int .u32 0, .int .i64 2]) ∧ IsR w' p F rest true ∧ St [p] [p] w w' := by
  have hleft : ((if over then 0 else rest.length : Nat) : Int) < n := by
    rcases hl with rfl | hl
    · simpa using h0
    · cases over <;> simp <;> omega
  have hz : (n == 0) = false := by simp; omega
  have H1 := Lib.hid h
  obtain ⟨v, bs, at_, hp, hv, hF, h3, h4, h5, h6⟩ := h
  have c2 := blk_cell hp 2
  have f2 := blk_free hp 2
  simp at c2
  have H2 := Lib.hid hp
  generalize hL : (if over then 0 else rest.length : Nat) = L at hleft
  have H3 := Lib.hid hL
  have H4 := Lib.hid hv
  have H5 := Lib.hid hF
  have H6 := Lib.hid h6
  clear hp hL hv hF h6 hl
  go_enter Tryd.func31, Tryd.ntmps31
  go_wp2_with (go_at_call 9; refine (rleft_calls _ _ _ _ _ H1.out).mono ?_; rintro e w' ⟨rfl, m, rfl⟩; rw [H3.out])
  go_ret2
  refine ⟨rfl, ⟨v, bs, at_, ?_, ?_, H5.out, h3, h4, h5, H6.out⟩, ?_⟩
  · exact (blk_set (w := w.drewN m) (b := p) H2.out 2 _).trans (by simp)
  · exact Own.setCell (w := w.drewN m) H4.out (by have := Own.ne H4.out H2.out (by decide); simpa using this) _
  · exact ((St.refl [p] w).drewN m).setCell (p := ⟨p, 2, none⟩) (by simp) _

/-- What stands when so many bits are read. -/
def RBits (w : World) (p n at_ : Nat) (sl : Value) (bs : List Nat) (rest : List Bool) (v g : Value) (wr : World) : Prop :=
  ∃ k V q : Nat, k ≤ n ∧ g = .int .i64 k ∧ v = .int .u64 V ∧ V < 2 ^ (k + 8) ∧ V % 2 ^ k = num (rest.take k) ∧ (k < n → V = num (rest.take k)) ∧ q = at_ + k ∧
      wr.heap[p]? = some (.cells #[sl, .int .i64 q, .bool false] 60 (0, 0)) ∧ Own wr 5 1 sl bs.length (u8s bs) ∧ St [p] [p] w wr

theorem u64_join (V y s k : Nat) (hV : V < 18446744073709551616) (hy : y < 256) (hk : k ≤ 32) :
    bits BinOp.or IntKind.u64 (V : Int) (IntKind.u64.wrap (IntKind.u64.wrap ((y : Int) / 2 ^ s) * 2 ^ k)) = ((V ||| (y / 2 ^ s) * 2 ^ k : Nat) : Int) := by
  have e : (y : Int) / 2 ^ s = ((y / 2 ^ s : Nat) : Int) := by
    rw [show ((2 : Int) ^ s) = ((2 ^ s : Nat) : Int) by simp, Int.natCast_ediv]
  have hz : y / 2 ^ s < 256 := Nat.lt_of_le_of_lt (Nat.div_le_self _ _) hy
  have hp : 2 ^ k ≤ 2 ^ 32 := Nat.pow_le_pow_right (by decide) hk
  rw [e, IntKind.wrap_u64, IntKind.wrap_u64]
  generalize y / 2 ^ s = z at hz
  have h1 : ((z : Nat) : Int) % 18446744073709551616 = (z : Int) := Int.emod_eq_of_lt (by omega) (by omega)
  have h3 : z * 2 ^ k ≤ 256 * 2 ^ 32 := Nat.mul_le_mul (by omega) hp
  have h4 : z * 2 ^ k < 18446744073709551616 := Nat.lt_of_le_of_lt h3 (by decide)
  have h2 : ((z : Int) * 2 ^ k) % 18446744073709551616 = ((z * 2 ^ k : Nat) : Int) := by
    rw [show ((2 : Int) ^ k) = ((2 ^ k : Nat) : Int) by simp, ← Int.natCast_mul]
    generalize z * 2 ^ k = q at h4
    exact Int.emod_eq_of_lt (by omega) (by omega)
  rw [h1, h2]
  exact bits_or_u64_nat _ _ hV h4

theorem u64_mask (V k : Nat) (hV : V < 18446744073709551616) (hk : k ≤ 32) :
    bits BinOp.and IntKind.u64 (V : Int) (IntKind.u64.wrap (IntKind.u64.wrap ((2 : Int) ^ k) - 1)) % 4294967296 = ((V % 2 ^ k : Nat) : Int) := by
  have hp : 2 ^ k ≤ 2 ^ 32 := Nat.pow_le_pow_right (by decide) hk
  have h0 : 0 < 2 ^ k := Nat.pow_pos (by decide)
  have hm : V &&& (2 ^ k - 1) = V % 2 ^ k := Nat.and_two_pow_sub_one_eq_mod V k
  have hlt : V % 2 ^ k < 2 ^ k := Nat.mod_lt _ h0
  rw [IntKind.wrap_u64, IntKind.wrap_u64, show ((2 : Int) ^ k) = ((2 ^ k : Nat) : Int) by simp]
  generalize 2 ^ k = P at *
  have e1 : (((P : Nat) : Int) % 18446744073709551616 - 1) % 18446744073709551616 = ((P - 1 : Nat) : Int) := by
    rw [Int.emod_eq_of_lt (a := ((P : Nat) : Int)) (by omega) (by omega), Int.emod_eq_of_lt (by omega) (by omega)]
    omega
  rw [e1, bits_and_u64_nat V (P - 1) hV (by omega), hm]
  exact Int.emod_eq_of_lt (by omega) (by omega)

theorem rb_next (w wr : World) (p n at_ k V q y : Nat) (A : Option Addr) (c : Nat) (bs : List Nat) (rest : List Bool) (T G Q : Int)
    (hlt : k < n) (hn : n ≤ 32) (hl : n ≤ rest.length) (hV1 : V < 2 ^ (k + 8)) (hV3 : V = num (rest.take k)) (hq : q = at_ + k) (h6 : rest = (unpack bs).drop at_)
    (hp : wr.heap[p]? = some (.cells #[.slice A bs.length c, .int .i64 q, .bool false] 60 (0, 0))) (hv : Own wr 5 1 (.slice A bs.length c) bs.length (u8s bs)) (hS : St [p] [p] w wr)
    (hy : bs[q / 8]? = some y) (hy8 : y < 256) (hT : T = min (8 - (q : Int) % 8) ((n : Int) - k)) (hG : G = k + T) (hQ : Q = q + T) :
    RBits w p n at_ (.slice A bs.length c) bs rest (.int .u64 (bits BinOp.or IntKind.u64 (V : Int) (IntKind.u64.wrap (IntKind.u64.wrap ((y : Int) / 2 ^ (q % 8)) * 2 ^ k)))) (.int .i64 G) (wr.setCell ⟨p, 1, none⟩ (.int .i64 Q)).drew := by
  have hV1' : V < 18446744073709551616 := Nat.lt_of_lt_of_le hV1 (Nat.le_trans (Nat.pow_le_pow_right (by decide) (show k + 8 ≤ 64 by omega)) (by decide))
  have hz : num ((rest.drop k).take (8 - q % 8)) = y / 2 ^ (q % 8) := by
    rw [h6, List.drop_drop, ← hq]
    exact unpack_byte bs q y hy hy8
  have hz8 : y / 2 ^ (q % 8) < 256 := Nat.lt_of_le_of_lt (Nat.div_le_self _ _) hy8
  have hr := read_round rest n k V (y / 2 ^ (q % 8)) (8 - q % 8) hlt hn hl (by omega) (by omega) hV3 hz hz8 (by omega)
  obtain ⟨r1, r2, r3⟩ := hr
  rw [u64_join V y (q % 8) k hV1' hy8 (by omega)]
  obtain ⟨t, ht⟩ : ∃ t : Nat, t = min (8 - q % 8) (n - k) := ⟨_, rfl⟩
  have hTt : T = (t : Int) := by omega
  have hkt : min (k + (8 - q % 8)) n = k + t := by omega
  rw [hkt] at r2
  refine ⟨k + t, V ||| y / 2 ^ (q % 8) * 2 ^ k, q + t, by omega, by rw [hG, hTt]; rfl, rfl, Nat.lt_of_lt_of_le r1 (Nat.pow_le_pow_right (by decide) (by omega)), r2, fun h => ?_, by omega, ?_, ?_, ?_⟩
  · have : k + t = k + (8 - q % 8) := by omega
    rw [this]
    exact r3 (by omega)
  · refine (blk_set hp 1 _).trans ?_
    rw [hQ, hTt]
    simp
  · exact Own.setCell (w := wr) hv (by have := Own.ne hv hp (by decide); simpa using this) _
  · exact (hS.setCell (p := ⟨p, 1, none⟩) (by simp) _).drew

set_option maxHeartbeats 1000000 in
theorem rbits_ok (w : World) (p : Nat) (F : List Nat) (rest : List Bool) (n : Int) (h : IsR w p F rest false) (h0 : 0 < n) (h32 : n ≤ 32) (hl : n ≤ (rest.length : Int)) :
    Calls Tryd.prog 31 #[.pointer (some ⟨p, 0, none⟩), .int .i64 n] w fun e w' => e = .returned (.tuple #[.int .u32 (num (rest.take n.toNat) : Nat), .int .i64 0]) ∧ IsR w' p F (rest.drop n.toNat) false ∧ St [p] [p] w w' := by
  obtain ⟨n, rfl⟩ := Int.eq_ofNat_of_zero_le (show 0 ≤ n by omega)
  rw [Int.toNat_natCast]
  have H1 := Lib.hid h
  obtain ⟨v, bs, at_, hp, hv, hF, h3, h4, h5, h6⟩ := h
  obtain ⟨A, c, rfl⟩ := Own.shape hv
  have c0 := blk_cell hp 0
  have c1 := blk_cell hp 1
  simp at c0 c1
  have f1 := blk_free hp 1
  have hz : ((n : Int) == 0) = false := by simp; omega
  have hd1 : decide ((n : Int) < 0) = false := by simp
  have hd2 : decide ((32 : Int) < (n : Int)) = false := by simp; omega
  have hd3 : decide (rest.length < n) = false := by simp; omega
  have hul := unpack_length bs
  have hrl : rest.length = 8 * bs.length - at_ := by rw [h6, List.length_drop, hul]
  have hn32 : n ≤ 32 := by omega
  have hnl : at_ + n ≤ 8 * bs.length := by omega
  have K1 := Lib.hid hp
  have K2 := Lib.hid hv
  have K3 := Lib.hid hF
  have K6 := Lib.hid h6
  have K7 := Lib.hid hrl
  have K8 := Lib.hid hul
  clear hp hv hF h6 hrl hul
  go_enter Tryd.func31, Tryd.ntmps31
  go_wp2_with (go_at_call 9; refine (rleft_calls _ _ _ _ _ H1.out).mono ?_; rintro e w' ⟨rfl, m, rfl⟩)
  go_loopw [6, 7, 8, 9] (fun v g lo ta wr => RBits w p n at_ (.slice A bs.length c) bs rest v g wr) (fun _ g _ _ _ => n - (intOf g).toNat)
  case atStart => exact ⟨0, 0, at_, Nat.zero_le _, rfl, rfl, by simp, by simp [num], by simp [num], rfl, K1.out, K2.out, (St.refl _ w).drewN m⟩
  case round =>
    obtain ⟨k, V, q, hk, rfl, rfl, hV1, hV2, hV3, hq, hp, hv, hS⟩ := hrel
    have hV1' : V < 18446744073709551616 := Nat.lt_of_lt_of_le hV1 (Nat.le_trans (Nat.pow_le_pow_right (by decide) (show k + 8 ≤ 64 by omega)) (by decide))
    by_cases hlt : k < n
    · obtain ⟨g, cap, hA, hform⟩ := World.ownsRow.form hv (by omega)
      injection hA with hA _ _
      subst hA
      obtain ⟨y, hy⟩ : ∃ y, bs[q / 8]? = some y := ⟨_, List.getElem?_eq_getElem (show q / 8 < bs.length by omega)⟩
      have hy8 := h3 y (List.mem_of_getElem? hy)
      have hidx : q / 8 < bs.length := by omega
      have cb : wr.cell? ⟨g, q / 8, none⟩ = some (.int .u8 (y : Int)) := by
        rw [World.ownsRow.cellAt hv (q / 8) (by omega)]; simp [u8s, hy]
      have d0 := blk_cell hp 0
      have d1 := blk_cell hp 1
      simp at d0 d1
      have e1 := blk_free hp 1
      have hq8 : q ≤ 8 * bs.length := by omega
      have hnx := fun (T G Q : Int) (hT : T = min (8 - (q : Int) % 8) ((n : Int) - k)) (hG : G = k + T) (hQ : Q = q + T) =>
        rb_next w wr p n at_ k V q y (some ⟨g, 0, none⟩) c bs rest T G Q hlt hn32 (by omega) hV1 (hV3 hlt) hq K6.out hp hv hS hy hy8 hT hG hQ
      have HX := Lib.hid hnx
      clear hnx hV1 hV2 hV3 hq hp hv hS hy c0 c1 f1
      by_cases hc : 8 - (q : Int) % 8 ≤ (n : Int) - k
      · go_wp2
        go_region
        go_wp2
        go_roundw
        case rel => exact HX.out (8 - (q : Int) % 8) _ _ (by omega) rfl rfl
        case measure => simp [intOf]; omega
      · go_wp2
        go_region
        go_wp2
        go_roundw
        case rel => exact HX.out ((n : Int) - k) _ _ (by omega) rfl rfl
        case measure => simp [intOf]; omega
    · obtain rfl : k = n := by omega
      have L1 := Lib.hid hV2
      have L3 := Lib.hid hq
      have L4 := Lib.hid hp
      have L5 := Lib.hid hv
      have L6 := Lib.hid hS
      clear hV1 hV2 hV3 hq hp hv hS c0 c1 f1
      have hmask := Lib.hid (u64_mask V k hV1' hn32)
      go_wp2
      go_ret2
      refine ⟨?_, ⟨.slice A bs.length c, bs, q, L4.out, L5.out, K3.out, h3, ?_, h5, ?_⟩, L6.out⟩
      · show Ending.returned (.tuple #[.int .u32 _, .int .i64 0]) = _
        rw [hmask.out, L1.out]
      · have := L3.out; omega
      · rw [K6.out, List.drop_drop, L3.out]
end Go.Proofs.YtdklkecoailekaaDoor
