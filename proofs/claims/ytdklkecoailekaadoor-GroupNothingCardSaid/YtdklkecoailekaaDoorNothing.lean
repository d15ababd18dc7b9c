/- GroupNothing: the walk: whatever the pixel, the cache and the bytes: true. -/
import Derived.Test.YtdklkecoailekaaDoorAns
set_option linter.unusedVariables false
namespace Go.Proofs.YtdklkecoailekaaDoor
open Go.RowKit Go Go.Shelf Go.Proofs.YtdklkecoailekaaDoorW Mq

/-- The symbols of a pixel, and a distance's. -/
def gat (p : Nat) : Nat → Nat
  | 0 => p / 256 % 256
  | 1 => p / 65536 % 256
  | 2 => p % 256
  | 3 => p / 16777216
  | _ => 7
def gls (c p : Nat) (i : Nat) : List Int := oneAt (nOf c i) (gat p i)
theorem gat_lt (c p i : Nat) (hp : p < 4294967296) (hc : c ≤ 11) (hi : i < 5) : gat p i < nOf c i := by
  have : i = 0 ∨ i = 1 ∨ i = 2 ∨ i = 3 ∨ i = 4 := by omega
  have h := nOf_bound c 0 hc
  rcases this with rfl | rfl | rfl | rfl | rfl
  · have hg := greens_lt c (by omega)
    show p / 256 % 256 < nOf c 0
    have : nOf c 0 = (greensOf c).toNat := rfl
    omega
  · show p / 65536 % 256 < 256; omega
  · show p % 256 < 256; omega
  · show p / 16777216 < 256; omega
  · show 7 < 40; omega
theorem gat_lt' (p i : Nat) (hp : p < 4294967296) : gat p i < 65536 := by
  unfold gat
  split <;> omega
theorem gls_at (c p i : Nat) (hp : p < 4294967296) (hc : c ≤ 11) (hi : i < 5) : oneAt (nOf c i) (gat p i % nOf c i) = gls c p i := by
  unfold gls
  rw [Nat.mod_eq_of_lt (gat_lt c p i hp hc hi)]
theorem gls_length (c p i : Nat) : (gls c p i).length = nOf c i := oneAt_length _ _
theorem gls_order (c p i : Nat) (hp : p < 4294967296) (hc : c ≤ 11) (hi : i < 5) : (orderOf (gls c p i)).getD 0 0 = (gat p i : Int) := by
  unfold gls
  rw [oneAt_order _ _ (gat_lt c p i hp hc hi)]
  rfl
theorem makeN_p (p : Nat) (hp : p < 4294967296) : makeN (p / 16777216) (p / 65536 % 256) (p / 256 % 256) (p % 256) = p := by
  unfold makeN
  omega
theorem ng_one (w : World) (c p : Nat) (R : Nat → Nat) (hp : p < 4294967296) (hc : c ≤ 11) (hrow : ∀ j, j < 5 → w.heap[R j]? = some (rowI (gls c p j))) :
    Calls Tryd.prog 6 #[.agg #[.slice (some ⟨R 0, 0, none⟩) (nOf c 0) (nOf c 0), .slice (some ⟨R 1, 0, none⟩) (nOf c 1) (nOf c 1), .slice (some ⟨R 2, 0, none⟩) (nOf c 2) (nOf c 2), .slice (some ⟨R 3, 0, none⟩) (nOf c 3) (nOf c 3), .slice (some ⟨R 4, 0, none⟩) (nOf c 4) (nOf c 4)], .int .i64 c] w fun e w' =>
      ∃ g F, e = .returned (.tuple #[.pointer (some ⟨g, 0, none⟩), .int .i64 0]) ∧ IsG w' g F (gls c p) ∧ (∀ b ∈ F, w.heap.size ≤ b) ∧ Below w.heap.size w w' := by
  have h := newgroup_ok w c (fun j => some ⟨R j, 0, none⟩) (nOf c) (gls c p) (by unfold mayC; simp; omega) (by rw [gls_length]; have := greens_lt c (by omega); show ((greensOf c).toNat : Int) = greensOf c; omega)
    (gls_length c p 1) (gls_length c p 2) (gls_length c p 3) (gls_length c p 4) (fun i hi => Rd.ofBlk (hrow i hi)) (fun i hi => Nat.le_of_eq (gls_length c p i)) (fun i hi => oneAt_check _ _ (gat_lt c p i hp hc hi))
    (fun i hi h2 => by have : many (gls c p i) = 1 := oneAt_many _ _ (gat_lt c p i hp hc hi); omega)
  simp only [gls_length] at h
  exact h
theorem gstep_calls (w : World) (g q c p : Nat) (F G : List Nat) (rest : List Bool) (h : IsG w g F (gls c p)) (hr : IsR w q G rest false) (hp : p < 4294967296) (hc : c ≤ 11) :
    Calls Tryd.prog 8 #[.pointer (some ⟨g, 0, none⟩), .pointer (some ⟨q, 0, none⟩), .int .i64 9] w fun e w' => e = .returned (.tuple #[.agg #[.int .i64 1, .int .i64 0, .int .i64 0, .int .i64 0, .int .u32 p], .int .i64 0]) ∧ St [] [] w w' := by
  have k := step_one w g q (p / 256 % 256) (p / 16777216) (p / 65536 % 256) (p % 256) 9 F G (gls c p) rest h hr (fun i hi => oneAt_one _ _ (gat_lt c p i hp hc hi)) (by decide)
    (gls_order c p 0 hp hc (by omega)) (gls_order c p 1 hp hc (by omega)) (gls_order c p 2 hp hc (by omega)) (gls_order c p 3 hp hc (by omega)) (by omega) (by omega) (by omega) (by omega)
  rw [makeN_p p hp] at k
  exact k
theorem lit0_p (c p : Nat) (hp : p < 4294967296) (hc : c ≤ 11) : lit0 (gls c p) p :=
  ⟨oneAt_cost _ _ (gat_lt c p 0 hp hc (by omega)), oneAt_cost _ _ (gat_lt c p 1 hp hc (by omega)), oneAt_cost _ _ (gat_lt c p 2 hp hc (by omega)), oneAt_cost _ _ (gat_lt c p 3 hp hc (by omega))⟩
theorem xor_one (p : Nat) : p ^^^ 1 = if p % 2 = 0 then p + 1 else p - 1 := by
  have h1 : (p ^^^ 1) / 2 = p / 2 := by
    rw [Nat.xor_div_two]
    simp
  have h2 : (p ^^^ 1) % 2 = 1 ↔ ¬ (p % 2 = 1 ↔ 1 % 2 = 1) := Nat.xor_mod_two_eq_one
  by_cases h4 : p % 2 = 0
  · rw [if_pos h4]
    have := h2.2 (by omega)
    omega
  · rw [if_neg h4]
    have : ¬ (p ^^^ 1) % 2 = 1 := fun h => by have := h2.1 h; omega
    omega
theorem litB_p (c p : Nat) (hp : p < 4294967296) (hc : c ≤ 11) : litB (gls c p) (p ^^^ 1) ∧ p ^^^ 1 < 4294967296 := by
  have hx := xor_one p
  have h0 : (p ^^^ 1) / 256 = p / 256 := by rw [hx]; split <;> omega
  have h1 : (p ^^^ 1) / 65536 = p / 65536 := by rw [hx]; split <;> omega
  have h3 : (p ^^^ 1) / 16777216 = p / 16777216 := by rw [hx]; split <;> omega
  have h2 : (p ^^^ 1) % 256 ≠ p % 256 := by rw [hx]; split <;> omega
  have h4 : p ^^^ 1 < 4294967296 := by rw [hx]; split <;> omega
  refine ⟨⟨?_, ?_, ?_, ?_⟩, h4⟩
  · rw [h0]; exact oneAt_cost _ _ (gat_lt c p 0 hp hc (by omega))
  · rw [h1]; exact oneAt_cost _ _ (gat_lt c p 1 hp hc (by omega))
  · exact oneAt_none _ _ _ h2
  · rw [h3]; exact oneAt_cost _ _ (gat_lt c p 3 hp hc (by omega))
theorem and_byte (x : Nat) (hx : x < 4294967296) : IntKind.u16.wrap (bits BinOp.and IntKind.u32 (x : Int) 255) = ((x % 256 : Nat) : Int) := by
  have h : bits BinOp.and IntKind.u32 (x : Int) 255 = ((x &&& 255 : Nat) : Int) := u32_and_nat x 255 hx (by decide)
  have h2 : x &&& 255 = x % 256 := Nat.and_two_pow_sub_one_eq_mod x 8
  rw [h, h2]
  simp only [IntKind.wrap, IntKind.signed, IntKind.bits]
  simp
  omega
theorem five_p (w : World) (c p : Nat) (hc : c ≤ 11) (hp : p < 4294967296) :
    Calls Tryd.prog 5 #[.int .i64 c, .agg #[.int .u16 (IntKind.u16.wrap (bits BinOp.and IntKind.u32 ((p : Int) / 256) 255)), .int .u16 (IntKind.u16.wrap (bits BinOp.and IntKind.u32 ((p : Int) / 65536) 255)),
        .int .u16 (IntKind.u16.wrap (bits BinOp.and IntKind.u32 (p : Int) 255)), .int .u16 ((p : Int) / 16777216), .int .u16 7], .bool false] w fun e w' =>
      ∃ R : Nat → Nat, e = .returned (.agg #[.slice (some ⟨R 0, 0, none⟩) (nOf c 0) (nOf c 0), .slice (some ⟨R 1, 0, none⟩) (nOf c 1) (nOf c 1), .slice (some ⟨R 2, 0, none⟩) (nOf c 2) (nOf c 2), .slice (some ⟨R 3, 0, none⟩) (nOf c 3) (nOf c 3), .slice (some ⟨R 4, 0, none⟩) (nOf c 4) (nOf c 4)]) ∧
        (∀ j, j < 5 → w'.heap[R j]? = some (rowI (gls c p j))) ∧ Below w.heap.size w w' := by
  have b0 : IntKind.u16.wrap (bits BinOp.and IntKind.u32 ((p : Int) / 256) 255) = ((gat p 0 : Nat) : Int) := and_byte (p / 256) (by omega)
  have b1 : IntKind.u16.wrap (bits BinOp.and IntKind.u32 ((p : Int) / 65536) 255) = ((gat p 1 : Nat) : Int) := and_byte (p / 65536) (by omega)
  have b2 : IntKind.u16.wrap (bits BinOp.and IntKind.u32 (p : Int) 255) = ((gat p 2 : Nat) : Int) := and_byte p hp
  have b3 : (p : Int) / 16777216 = ((gat p 3 : Nat) : Int) := rfl
  have b4 : (7 : Int) = ((gat p 4 : Nat) : Int) := rfl
  rw [b0, b1, b2, b3, b4]
  refine (five_calls w c (gat p) hc (fun i => gat_lt' p i hp)).mono ?_
  rintro e w' ⟨R, h1, h2, h3⟩
  exact ⟨R, h1, fun j hj => by rw [h2 j hj, gls_at c p j hp hc hj], h3⟩
theorem IsW.keep {F F' G : List Nat} {w w' : World} {p : Nat} {bits : List Bool} (h : IsW w p G bits) (k : St F F' w w') (hd : ∀ b ∈ G, b ∉ F) : IsW w' p G bits := by
  obtain ⟨v, h1, h2, rfl⟩ := h
  exact ⟨v, blk_st k (hd p (by simp)) h1, h2.keep k (fun b hb => hd b (by simp [hb])), rfl⟩
theorem IsW.blk {G : List Nat} {w : World} {p : Nat} {bits : List Bool} (h : IsW w p G bits) : ∃ v, w.heap[p]? = some (.cells #[v, .int .i64 (bits.length : Nat)] 65 (0, 0)) := by
  obtain ⟨v, h1, _⟩ := h
  exact ⟨v, h1⟩
theorem tell_p (w : World) (g q c p : Nat) (F G : List Nat) (bits : List Bool) (h : IsG w g F (gls c p)) (hw : IsW w q G bits) (hp : p < 4294967296) (hc : c ≤ 11) :
    Calls Tryd.prog 11 #[.pointer (some ⟨g, 0, none⟩), .pointer (some ⟨q, 0, none⟩), .agg #[.int .i64 1, .int .i64 0, .int .i64 0, .int .i64 0, .int .u32 p], .int .i64 9] w fun e w' => e = .returned (.bool true) ∧ St [] [] w w' := by
  obtain ⟨v, hb⟩ := hw.blk
  exact tell_yes w g q ⟨1, 0, 0, 0, p⟩ 9 F (gls c p) _ _ h hb rfl (by decide) hp (lit0_p c p hp hc)
theorem xor_p (p : Nat) (hp : p < 4294967296) : bits BinOp.xor IntKind.u32 (p : Int) 1 = ((p ^^^ 1 : Nat) : Int) := u32_xor_nat p 1 hp (by decide)
theorem untell_p (w : World) (g q c p : Nat) (F G : List Nat) (bt : List Bool) (h : IsG w g F (gls c p)) (hw : IsW w q G bt) (hp : p < 4294967296) (hc : c ≤ 11) :
    Calls Tryd.prog 11 #[.pointer (some ⟨g, 0, none⟩), .pointer (some ⟨q, 0, none⟩), .agg #[.int .i64 1, .int .i64 0, .int .i64 0, .int .i64 0, .int .u32 (bits BinOp.xor IntKind.u32 (p : Int) 1)], .int .i64 9] w fun e w' => e = .returned (.bool false) ∧ St [] [] w w' := by
  obtain ⟨v, hb⟩ := hw.blk
  rw [xor_p p hp]
  exact tell_no w g q ⟨1, 0, 0, 0, p ^^^ 1⟩ 9 F (gls c p) _ _ h hb rfl (by decide) (litB_p c p hp hc).2 (litB_p c p hp hc).1
theorem wlen_p (w : World) (p : Nat) (F : List Nat) (h : IsW w p F []) :
    Calls Tryd.prog 12 #[.pointer (some ⟨p, 0, none⟩)] w fun e w' => e = .returned (.int .i64 0) ∧ w = w' := wlen_calls w p F [] h
theorem left_p (w : World) (p : Nat) (F : List Nat) (bs : List Nat) (h : IsR w p F (unpack bs) false) :
    Calls Tryd.prog 9 #[.pointer (some ⟨p, 0, none⟩)] w fun e w' => e = .returned (.int .i64 (8 * (bs.length : Int))) ∧ ∃ n, w' = w.drewN n := by
  refine (rleft_calls w p F (unpack bs) false h).mono ?_
  rintro e w' ⟨h1, h2⟩
  refine ⟨h1.trans ?_, h2⟩
  rw [if_neg (by decide), unpack_length]
  exact congrArg (fun x => Ending.returned (.int .i64 x)) (by omega)
set_option maxHeartbeats 2000000 in
set_option maxRecDepth 8000 in
theorem nothing_walk (w : World) (p q : Nat) (A : Option Addr) (cap : Nat) (bs : List Nat) (hp : p < 4294967296) (hq : q < 256) (h : Rd w A (u8s bs)) (hl : bs.length ≤ 50) (h8 : ∀ b ∈ bs, b < 256) :
    Calls Tryd.prog 3 #[.int .u32 p, .int .u8 q, .slice A bs.length cap] w fun e w' => e = .returned (.bool true) ∧ Below w.heap.size w w' := by
  obtain ⟨c, hc⟩ : ∃ c, q % 12 = c := ⟨_, rfl⟩
  have hc11 : c ≤ 11 := by omega
  have hcc : (q : Int) % 12 = (c : Int) := by omega
  have hne : ¬ (50 < bs.length) := by omega
  have HR := Lib.hid h
  have H8 := Lib.hid h8
  clear h h8 hc
  go_enter Tryd.func3, Tryd.ntmps3
  go_wp2_with (first
    | (go_at_call 5; refine (five_p _ c p hc11 hp).mono ?_; rintro e w1 ⟨R, rfl, hrow, hbel⟩; have C1 := Lib.hid hbel; have T1 := Lib.hid (fun j hj => blk_old (hrow j hj) (.cells (fCells R (nOf c) 5) 27 (0, 0))); have c0 := blk_new w1 (.cells (fCells R (nOf c) 5) 27 (0, 0)); clear hbel hrow)
    | (go_at_call 6; refine (ng_one _ c p R hp hc11 T1.out).mono ?_; rintro e w2 ⟨g, F, rfl, hg, hF, hbel⟩; have C2 := Lib.hid hbel; have G2 := Lib.hid hg; have F2 := Lib.hid hF; have HR2 := Lib.hid (((HR.out.below C1.out).keep ((St.refl [] w1).alloc (.cells (fCells R (nOf c) 5) 27 (0, 0))) (Off.nil _)).below C2.out); clear hbel hg hF)
    | (go_at_call 7; refine (rnew_calls _ A cap bs HR2.out (by omega) H8.out).mono ?_; rintro e w3 ⟨rb, G, rfl, hr, hst⟩; have C3 := Lib.hid hst; have G3 := Lib.hid hr; clear hst hr))
  have HG3 := Lib.hid (G2.out.keep C3.out (by simp))
  have l3 := blk_lt c0
  go_loopw [12] (fun i wr => ∃ k : Nat, k ≤ 10 ∧ i = .int .i64 k ∧ St [] [] w3 wr) (fun i _ => 10 - (intOf i).toNat)
  case atStart => exact ⟨0, by omega, rfl, St.refl _ _⟩
  case round =>
    obtain ⟨k, hk, rfl, hS⟩ := hrel
    have K := Lib.hid hS
    clear hS
    by_cases hlt : k < 10
    · go_wp2_with (first
        | (go_at_call 8; refine (gstep_calls _ g rb c p F G (unpack bs) (HG3.out.keep K.out (by simp)) (G3.out.keep K.out (by simp)) hp hc11).mono ?_; rintro e w4 ⟨rfl, hst⟩; have K4 := Lib.hid hst; clear hst)
        | (go_at_call 9; refine (left_p _ rb G bs (G3.out.keep ((K.out.trans K4.out).alloc _) (by simp))).mono ?_; rintro e w5 ⟨rfl, n, rfl⟩))
      case roundEnd =>
        refine ⟨⟨k + 1, by omega, rfl, ((K.out.trans K4.out).alloc _).drewN _⟩, ?_⟩
        show 10 - ((k : Int) + 1).toNat < 10 - (k : Int).toNat
        omega
    · have h10 : ¬ ((k : Int) < 10) := by omega
      go_wp2_with (first
        | (go_at_call 10; refine (wnew_calls _).mono ?_; rintro e w4 ⟨wb, H, rfl, hw4, hst⟩; have K4 := Lib.hid hst; have W4 := Lib.hid hw4; clear hst hw4)
        | (go_at_call 4; refine (answers_calls _).mono ?_; rintro e w5 ⟨rfl, hbel⟩; have K5 := Lib.hid hbel; have hw5 := W4.out.keep (St.of_below hbel []) (by simp); have W5 := Lib.hid hw5; have hg5 := (HG3.out.keep (K.out.trans (K4.out.less (G := []) (by simp))) (by simp)).keep (St.of_below hbel []) (by simp); have G5 := Lib.hid hg5; clear hbel hw5 hg5)
        | (go_at_call 11; (with_reducible refine (tell_p _ g wb c p F H [] G5.out W5.out hp hc11).mono ?_); rintro e w6 ⟨rfl, hst⟩; have K6 := Lib.hid hst; have hw6 := W5.out.keep hst (by simp); have hg6 := G5.out.keep hst (by simp); have W6 := Lib.hid hw6; have G6 := Lib.hid hg6; clear hst hw6 hg6)
        | (go_at_call 12; refine (wlen_p _ wb H W6.out).mono ?_; rintro e w7 ⟨rfl, rfl⟩)
        | (go_at_call 11; refine (untell_p _ g wb c p F H [] G6.out W6.out hp hc11).mono ?_; rintro e w8 ⟨rfl, hst⟩; have K8 := Lib.hid hst; clear hst))
      go_ret
      refine ⟨rfl, ?_⟩
      have z1 : w.heap.size ≤ w1.heap.size := C1.out.size
      have z2 : w1.heap.size < w2.heap.size := by have := C2.out.size; rw [World.size_alloc] at this; omega
      have e2 : Below w.heap.size w w2 := (C1.out.alloc z1 _).trans (C2.out.mono (by rw [World.size_alloc]; omega))
      have e3 : Below w.heap.size w w3 := e2.trans (C3.out.below_new.mono (by omega))
      have z3 : w2.heap.size ≤ w3.heap.size := C3.out.size
      have e4 : Below w.heap.size w wr := e3.trans (K.out.below.mono (by omega))
      have z4 : w3.heap.size ≤ wr.heap.size := K.out.size
      have e5 : Below w.heap.size w w4 := e4.trans (K4.out.below_new.mono (by omega))
      have z5 : wr.heap.size ≤ w4.heap.size := K4.out.size
      have e6 : Below w.heap.size w w5 := e5.trans (K5.out.mono (by omega))
      have z6 : w4.heap.size ≤ w5.heap.size := K5.out.size
      have e7 : Below w.heap.size w w6 := e6.trans (K6.out.below.mono (by omega))
      have z7 : w5.heap.size ≤ w6.heap.size := K6.out.size
      exact e7.trans (K8.out.below.mono (by omega))
end Go.Proofs.YtdklkecoailekaaDoor
