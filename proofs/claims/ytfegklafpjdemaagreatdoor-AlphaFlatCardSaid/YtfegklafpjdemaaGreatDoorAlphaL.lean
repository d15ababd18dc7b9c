/- AlphaFilters: the walk. -/
import Derived.Test.YtfegklafpjdemaaGreatDoorAlphaE
import Derived.Test.YtfegklafpjdemaaGreatDoorAlphaY
set_option linter.unusedVariables false
set_option linter.unusedSimpArgs false
namespace Go.Proofs.YtfegklafpjdemaaGreatDoor
open Go.RowKit Go Go.Proofs.YtfegklafpjdemaaGreatDoorW Mq

def YesPost (w : World) (e : Ending) (w' : World) : Prop := e = .returned (.bool true) ∧ Below w.heap.size w w'
theorem filters_long (w : World) (W H F : Int) (A : Option Addr) (n c : Nat) (hn : 3000 < n) :
    Calls Tryz.prog 3 #[.agg #[.int .i64 W, .int .i64 H, .slice A n c], .int .i64 F] w (YesPost w) := by
  go_enter Tryz.func3, Tryz.ntmps3
  go_wp2_with (go_at_call 7; refine (answers_calls _).mono ?_; rintro e w1 ⟨rfl, hst⟩)
  go_ret
  exact ⟨rfl, (((St.refl [] w).alloc _).trans hst).below⟩
/-- What an append to nothing leaves. -/
theorem app_start {w w1 : World} {n : Nat} {v' : Value} (hg : (w.alloc (.cells #[] 5)).grownBy w1 (some w.heap.size)) : St [] [] w w1 := by
  have s1 : St [] [w.heap.size] w (w.alloc (.cells #[] 5)) := (St.refl [] w).allocTo _
  have s2 : St [w.heap.size] [] (w.alloc (.cells #[] 5)) w1 := ⟨hg.os, hg.tape, hg.output, hg.size, fun k hk hn => hg.block k hk (fun e => hn (by injection e with e; simp [e])), fun k hk => by cases hk⟩
  exact s1.trans s2
theorem same_st (w : World) (A B : Option Addr) (n c d : Nat) (bs : List Nat) (hA : Rd w A (u8s bs)) (hB : Rd w B (u8s bs)) (hn : bs.length = n) (hl : n ≤ 1099511627776) :
    Calls Tryz.prog 11 #[.slice A n c, .slice B n d] w fun e w' => e = .returned (.bool true) ∧ St [] [] w w' := by
  refine (same_true w A B n c d bs hA hB hn hl).mono ?_
  rintro e w' ⟨h1, m, rfl⟩
  exact ⟨h1, (St.refl [] w).drewN m⟩
theorem own_nil_at (W : World) (k : Nat) (hk : W.heap.size = k) : Own (W.alloc (.cells #[] 5)) 5 1 (.slice (some ⟨k, 0, none⟩) 0 0) 0 [] := by
  subst hk
  exact World.ownsRow_made (base := 0) (e := 5) (size := 1) W #[] 0 (Nat.zero_le _) (by decide) rfl
set_option maxHeartbeats 2000000 in
set_option maxRecDepth 8000 in
theorem filters_bad (w : World) (W H F : Int) (A : Option Addr) (n c : Nat) (bs : List Nat) (hl : n ≤ 3000) (h : Rd w A (u8s bs)) (hn : bs.length = n) (hb : goodB W H n = false ∨ filtB F = false) :
    Calls Tryz.prog 3 #[.agg #[.int .i64 W, .int .i64 H, .slice A n c], .int .i64 F] w (YesPost w) := by
  have hsrc : ∀ W1, St [] [] w W1 → Src Tryz.prog 1 22 (.slice A n c) n (u8s bs) W1 := fun W1 k => Src.ofRd Tryz.underlying22 _ n c _ (by rw [u8s_length, hn, Nat.mul_one]) (by decide) (h.keep k (Off.nil _)) (u8s_one bs)
  have HSR := Lib.hid hsrc
  have HB := Lib.hid hb
  have hz : decide (3000 < n) = false := by simp; omega
  clear hsrc h hn hb
  have hcase : (goodB W H n = false) ∨ (goodB W H n = true ∧ F < 0) ∨ (goodB W H n = true ∧ 3 < F) := by
    cases hg : goodB W H n
    · exact .inl rfl
    · right
      have h1 := HB.out
      rw [hg] at h1
      have h2 : filtB F = false := by rcases h1 with h1 | h1; cases h1; exact h1
      unfold filtB at h2
      simp at h2
      by_cases h3 : F < 0
      · exact .inl ⟨rfl, h3⟩
      · exact .inr ⟨rfl, by have := h2 (by omega); omega⟩
  rcases hcase with hgd | ⟨hgd, hf⟩ | ⟨hgd, hf⟩
  all_goals
    have HGd := Lib.hid hgd
    clear hgd
    go_enter Tryz.func3, Tryz.ntmps3
    go_wp2_with (first
      | (at_builtin; refine wpList_app _ rfl _ (.tmp 21) 22 22 rfl 5 (.int .u8 0) 1 1 Tryz.underlying22 Tryz.info5 rfl (by decide) (.slice (some ⟨w.heap.size + 1, 0, none⟩) 0 0) 0 [] rfl (own_nil_at _ _ (World.size_alloc w (.cells #[.int .i64 W, .int .i64 H, .slice A n c] 24))) _ _ _ rfl (HSR.out _ (((St.refl [] w).alloc _).alloc _)) ?_ ?_ ?_))
    · unfold maxLen; omega
    · omega
    intro v' w1 hown hg _ hat
    obtain ⟨A', c', rfl⟩ := Own.shape hown
    have s1 : St [] [] (w.alloc (.cells #[.int .i64 W, .int .i64 H, .slice A n c] 24)) w1 := app_start (n := n) (v' := .slice none 0 0) (by simpa [Value.ownBlock, World.size_alloc] using hg)
    have hb1 := blk_st s1 (by simp) (blk_new w _)
    have c0 := blk_cell hb1 0
    have c1 := blk_cell hb1 1
    have c2 := blk_cell hb1 2
    have lb := blk_lt hb1
    simp at c0 c1 c2
    have S1 := Lib.hid s1
    have B1 := Lib.hid hb1
    clear hown hg hat s1 hb1
    go_wp2_with (first
      | (go_at_call 8; refine (forth_bad _ W H F A n c HB.out).mono ?_; rintro e w2 ⟨rfl, hst⟩; have hb2 := blk_st hst (by simp) B1.out; have d0 := blk_cell hb2 0; have d1 := blk_cell hb2 1; have d2 := blk_cell hb2 2; have lb2 := blk_lt hb2; simp at d0 d1 d2; have S2 := Lib.hid hst; have B2 := Lib.hid hb2; clear hst hb2)
      | (go_at_call 9; refine (back_bad _ W H F A n c HB.out).mono ?_; rintro e w3 ⟨rfl, hst⟩; have hb3 := blk_st hst (by simp) B2.out; have e0 := blk_cell hb3 0; have e1 := blk_cell hb3 1; have e2 := blk_cell hb3 2; have lb3 := blk_lt hb3; simp at e0 e1 e2; have S3 := Lib.hid hst; have B3 := Lib.hid hb3; clear hst hb3)
      | (go_at_call 10; refine (plane_calls _ W H A n c).mono ?_; rintro e w4 ⟨rfl, hst⟩; rw [HGd.out]; have S4 := Lib.hid hst; clear hst)
      | (go_at_call 7; refine (answers_calls _).mono ?_; rintro e w5 ⟨rfl, hst⟩; have S5 := Lib.hid hst; clear hst))
    go_ret
    exact ⟨rfl, (((((((St.refl [] w).alloc _).trans S1.out).trans S2.out).trans S3.out).trans S4.out).trans S5.out).below⟩


set_option maxHeartbeats 4000000 in
set_option maxRecDepth 8000 in
theorem filters_good (w : World) (W H n c f : Nat) (F : Int) (hF : F = f) (hf : f ≤ 3) (A : Option Addr) (bs : List Nat) (hl : n ≤ 3000) (h : Rd w A (u8s bs)) (hn : bs.length = n) (h8 : ∀ b ∈ bs, b < 256) (hg : goodB (W : Int) (H : Int) n = true) :
    Calls Tryz.prog 3 #[.agg #[.int .i64 W, .int .i64 H, .slice A n c], .int .i64 F] w (YesPost w) := by
  obtain ⟨hW, hH, hnn⟩ := goodB_true hg
  have hpl := prod_le hW hH
  rw [← hnn] at hpl
  have hn1 : 0 < n := by omega
  have hnn2 : n = H * W := by
    have h1 : ((H * W : Nat) : Int) = (n : Int) := by rw [hnn, Int.natCast_mul, Int.mul_comm]
    omega
  have hsrc : ∀ W1, St [] [] w W1 → Src Tryz.prog 1 22 (.slice A n c) n (u8s bs) W1 := fun W1 k => Src.ofRd Tryz.underlying22 _ n c _ (by rw [u8s_length, hn, Nat.mul_one]) (by decide) (h.keep k (Off.nil _)) (u8s_one bs)
  have HSR := Lib.hid hsrc
  have hz : decide (3000 < n) = false := by simp; omega
  have f0 : 0 ≤ F := by omega
  have f3 : F ≤ 3 := by omega
  have HA := Lib.hid h
  have HN := Lib.hid hn
  have H8 := Lib.hid h8
  have HG := Lib.hid hg
  have HFF := Lib.hid hF
  have HW : Hid (1 ≤ W ∧ W ≤ 16384) := by constructor <;> omega
  have HH : Hid (1 ≤ H ∧ H ≤ 16384) := by constructor <;> omega
  have HNN := Lib.hid hnn2
  have bf : backL (forthL bs W f) W f = bs := back_forth bs W f (by omega) h8
  have fb : forthL (backL bs W f) W f = bs := forth_back bs W f (by omega) h8
  have HBF := Lib.hid bf
  have HFB := Lib.hid fb
  have l1 : (forthL bs W f).length = n := by rw [forthL_length]; exact hn
  have l2 : (backL bs W f).length = n := by rw [backL_length]; exact hn
  have L1 := Lib.hid l1
  have L2 := Lib.hid l2
  have q1 := forthL_lt bs W f h8
  have q2 := backL_lt bs W f h8
  have Q1 := Lib.hid q1
  have Q2 := Lib.hid q2
  clear hsrc h hn h8 hg hF hW hH hnn hpl hnn2 bf fb l1 l2 q1 q2
  go_enter Tryz.func3, Tryz.ntmps3
  go_wp2_with (first
    | (at_builtin; refine wpList_app _ rfl _ (.tmp 21) 22 22 rfl 5 (.int .u8 0) 1 1 Tryz.underlying22 Tryz.info5 rfl (by decide) (.slice (some ⟨w.heap.size + 1, 0, none⟩) 0 0) 0 [] rfl (own_nil_at _ _ (World.size_alloc w (.cells #[.int .i64 W, .int .i64 H, .slice A n c] 24))) _ _ _ rfl (HSR.out _ (((St.refl [] w).alloc _).alloc _)) ?_ ?_ ?_))
  · unfold maxLen; omega
  · omega
  intro v' w1 hown hg _ hat
  have hown0 : Own w1 5 1 v' n (u8s bs) := by simpa using hown
  obtain ⟨g0, k0, rfl⟩ := own_some hown0 hn1
  have s1 : St [] [] (w.alloc (.cells #[.int .i64 W, .int .i64 H, .slice A n c] 24)) w1 := app_start (n := n) (v' := .slice none 0 0) (by simpa [Value.ownBlock, World.size_alloc] using hg)
  have hb1 := blk_st s1 (by simp) (blk_new w _)
  have c0 := blk_cell hb1 0
  have c1 := blk_cell hb1 1
  have c2 := blk_cell hb1 2
  have lb := blk_lt hb1
  simp at c0 c1 c2
  have BX := Lib.hid hb1
  have SS := Lib.hid (((St.refl [] w).alloc (.cells #[.int .i64 W, .int .i64 H, .slice A n c] 24)).trans s1)
  have RA := Lib.hid (HA.out.keep SS.out (Off.nil _))
  have R0 := Lib.hid (Rd.of_own hown0)
  clear hown hown0 hg hat s1 hb1 HA HSR
  go_wp2_with (first
    | (go_at_call 8; (with_reducible refine (forth_good _ W H A n c bs f F HFF.out hf HG.out RA.out HN.out H8.out).mono ?_); rintro e w' ⟨g1, kg1, rfl, hown, hgg, hst⟩; have hst := hst.less (G := []) (by simp); have hrd := Rd.of_own hown; have RA := Lib.hid (RA.out.keep hst (Off.nil _)); have R0 := Lib.hid (R0.out.keep hst (Off.nil _)); have hbx := blk_st hst (by simp) BX.out; have c0 := blk_cell hbx 0; have c1 := blk_cell hbx 1; have c2 := blk_cell hbx 2; have lb := blk_lt hbx; simp at c0 c1 c2; have BX := Lib.hid hbx; have SS := Lib.hid (SS.out.trans hst); have R1 := Lib.hid hrd; clear hst hown hgg hbx hrd)
    | (go_at_call 9; (with_reducible refine (back_good _ W H A n c bs f F HFF.out hf HG.out RA.out HN.out H8.out).mono ?_); rintro e w' ⟨g2, kg2, rfl, hown, hgg, hst⟩; have hst := hst.less (G := []) (by simp); have hrd := Rd.of_own hown; have RA := Lib.hid (RA.out.keep hst (Off.nil _)); have R0 := Lib.hid (R0.out.keep hst (Off.nil _)); have R1 := Lib.hid (R1.out.keep hst (Off.nil _)); have hbx := blk_st hst (by simp) BX.out; have c0 := blk_cell hbx 0; have c1 := blk_cell hbx 1; have c2 := blk_cell hbx 2; have lb := blk_lt hbx; simp at c0 c1 c2; have BX := Lib.hid hbx; have SS := Lib.hid (SS.out.trans hst); have R2 := Lib.hid hrd; clear hst hown hgg hbx hrd)
    | (go_at_call 10; refine (plane_calls _ W H A n c).mono ?_; rintro e w' ⟨rfl, hst⟩; rw [HG.out]; have RA := Lib.hid (RA.out.keep hst (Off.nil _)); have R0 := Lib.hid (R0.out.keep hst (Off.nil _)); have R1 := Lib.hid (R1.out.keep hst (Off.nil _)); have R2 := Lib.hid (R2.out.keep hst (Off.nil _)); have hbx := blk_st hst (by simp) BX.out; have c0 := blk_cell hbx 0; have c1 := blk_cell hbx 1; have c2 := blk_cell hbx 2; have lb := blk_lt hbx; simp at c0 c1 c2; have BX := Lib.hid hbx; have SS := Lib.hid (SS.out.trans hst); clear hst hbx)
    | (go_at_call 9; (with_reducible refine (back_good _ W H (some ⟨g1, 0, none⟩) n kg1 (forthL bs W f) f F HFF.out hf HG.out R1.out L1.out Q1.out).mono ?_); rintro e w' ⟨g3, kg3, rfl, hown, hgg, hst⟩; have hst := hst.less (G := []) (by simp); rw [HBF.out] at hown; have hrd := Rd.of_own hown; have RA := Lib.hid (RA.out.keep hst (Off.nil _)); have R0 := Lib.hid (R0.out.keep hst (Off.nil _)); have R1 := Lib.hid (R1.out.keep hst (Off.nil _)); have R2 := Lib.hid (R2.out.keep hst (Off.nil _)); have hbx := blk_st hst (by simp) BX.out; have c0 := blk_cell hbx 0; have c1 := blk_cell hbx 1; have c2 := blk_cell hbx 2; have lb := blk_lt hbx; simp at c0 c1 c2; have BX := Lib.hid hbx; have SS := Lib.hid (SS.out.trans hst); have R3 := Lib.hid hrd; clear hst hown hgg hbx hrd)
    | (go_at_call 8; (with_reducible refine (forth_good _ W H (some ⟨g2, 0, none⟩) n kg2 (backL bs W f) f F HFF.out hf HG.out R2.out L2.out Q2.out).mono ?_); rintro e w' ⟨g4, kg4, rfl, hown, hgg, hst⟩; have hst := hst.less (G := []) (by simp); rw [HFB.out] at hown; have hrd := Rd.of_own hown; have RA := Lib.hid (RA.out.keep hst (Off.nil _)); have R0 := Lib.hid (R0.out.keep hst (Off.nil _)); have R1 := Lib.hid (R1.out.keep hst (Off.nil _)); have R2 := Lib.hid (R2.out.keep hst (Off.nil _)); have R3 := Lib.hid (R3.out.keep hst (Off.nil _)); have hbx := blk_st hst (by simp) BX.out; have c0 := blk_cell hbx 0; have c1 := blk_cell hbx 1; have c2 := blk_cell hbx 2; have lb := blk_lt hbx; simp at c0 c1 c2; have BX := Lib.hid hbx; have SS := Lib.hid (SS.out.trans hst); have R4 := Lib.hid hrd; clear hst hown hgg hbx hrd)
    | (go_at_call 7; refine (answers_calls _).mono ?_; rintro e w' ⟨rfl, hst⟩; have RA := Lib.hid (RA.out.keep hst (Off.nil _)); have R0 := Lib.hid (R0.out.keep hst (Off.nil _)); have R1 := Lib.hid (R1.out.keep hst (Off.nil _)); have R2 := Lib.hid (R2.out.keep hst (Off.nil _)); have R3 := Lib.hid (R3.out.keep hst (Off.nil _)); have R4 := Lib.hid (R4.out.keep hst (Off.nil _)); have hbx := blk_st hst (by simp) BX.out; have c0 := blk_cell hbx 0; have c1 := blk_cell hbx 1; have c2 := blk_cell hbx 2; have lb := blk_lt hbx; simp at c0 c1 c2; have BX := Lib.hid hbx; have SS := Lib.hid (SS.out.trans hst); clear hst hbx)
    | (go_at_call 12; (with_reducible refine (filter_forth _ W H A n c bs f F HFF.out hf HW.out HH.out HNN.out RA.out HN.out H8.out).mono ?_); rintro e w' ⟨g5, kg5, rfl, hown, hst⟩; have hst := hst.less (G := []) (by simp); have hrd := Rd.of_own hown; have RA := Lib.hid (RA.out.keep hst (Off.nil _)); have R0 := Lib.hid (R0.out.keep hst (Off.nil _)); have R1 := Lib.hid (R1.out.keep hst (Off.nil _)); have R2 := Lib.hid (R2.out.keep hst (Off.nil _)); have R3 := Lib.hid (R3.out.keep hst (Off.nil _)); have R4 := Lib.hid (R4.out.keep hst (Off.nil _)); have hbx := blk_st hst (by simp) BX.out; have c0 := blk_cell hbx 0; have c1 := blk_cell hbx 1; have c2 := blk_cell hbx 2; have lb := blk_lt hbx; simp at c0 c1 c2; have BX := Lib.hid hbx; have SS := Lib.hid (SS.out.trans hst); have R5 := Lib.hid hrd; clear hst hown hbx hrd)
    | (go_at_call 12; (with_reducible refine (filter_back _ W H A n c bs f F HFF.out hf HW.out HH.out HNN.out RA.out HN.out H8.out).mono ?_); rintro e w' ⟨g6, kg6, rfl, hown, hst⟩; have hst := hst.less (G := []) (by simp); have hrd := Rd.of_own hown; have RA := Lib.hid (RA.out.keep hst (Off.nil _)); have R0 := Lib.hid (R0.out.keep hst (Off.nil _)); have R1 := Lib.hid (R1.out.keep hst (Off.nil _)); have R2 := Lib.hid (R2.out.keep hst (Off.nil _)); have R3 := Lib.hid (R3.out.keep hst (Off.nil _)); have R4 := Lib.hid (R4.out.keep hst (Off.nil _)); have hbx := blk_st hst (by simp) BX.out; have c0 := blk_cell hbx 0; have c1 := blk_cell hbx 1; have c2 := blk_cell hbx 2; have lb := blk_lt hbx; simp at c0 c1 c2; have BX := Lib.hid hbx; have SS := Lib.hid (SS.out.trans hst); have R6 := Lib.hid hrd; clear hst hown hbx hrd)
    | (go_at_call 11; (with_reducible refine (same_st _ (some ⟨g1, 0, none⟩) (some ⟨g5, 0, none⟩) n kg1 kg5 (forthL bs W f) R1.out R5.out L1.out (by omega)).mono ?_); rintro e w' ⟨rfl, hst⟩; have RA := Lib.hid (RA.out.keep hst (Off.nil _)); have R0 := Lib.hid (R0.out.keep hst (Off.nil _)); have R1 := Lib.hid (R1.out.keep hst (Off.nil _)); have R2 := Lib.hid (R2.out.keep hst (Off.nil _)); have R3 := Lib.hid (R3.out.keep hst (Off.nil _)); have R4 := Lib.hid (R4.out.keep hst (Off.nil _)); have hbx := blk_st hst (by simp) BX.out; have c0 := blk_cell hbx 0; have c1 := blk_cell hbx 1; have c2 := blk_cell hbx 2; have lb := blk_lt hbx; simp at c0 c1 c2; have BX := Lib.hid hbx; have SS := Lib.hid (SS.out.trans hst); clear hst hbx)
    | (go_at_call 11; (with_reducible refine (same_st _ (some ⟨g2, 0, none⟩) (some ⟨g6, 0, none⟩) n kg2 kg6 (backL bs W f) R2.out R6.out L2.out (by omega)).mono ?_); rintro e w' ⟨rfl, hst⟩; have RA := Lib.hid (RA.out.keep hst (Off.nil _)); have R0 := Lib.hid (R0.out.keep hst (Off.nil _)); have R1 := Lib.hid (R1.out.keep hst (Off.nil _)); have R2 := Lib.hid (R2.out.keep hst (Off.nil _)); have R3 := Lib.hid (R3.out.keep hst (Off.nil _)); have R4 := Lib.hid (R4.out.keep hst (Off.nil _)); have hbx := blk_st hst (by simp) BX.out; have c0 := blk_cell hbx 0; have c1 := blk_cell hbx 1; have c2 := blk_cell hbx 2; have lb := blk_lt hbx; simp at c0 c1 c2; have BX := Lib.hid hbx; have SS := Lib.hid (SS.out.trans hst); clear hst hbx)
    | (go_at_call 11; (with_reducible refine (same_st _ (some ⟨g3, 0, none⟩) A n kg3 c bs R3.out RA.out HN.out (by omega)).mono ?_); rintro e w' ⟨rfl, hst⟩; have RA := Lib.hid (RA.out.keep hst (Off.nil _)); have R0 := Lib.hid (R0.out.keep hst (Off.nil _)); have R1 := Lib.hid (R1.out.keep hst (Off.nil _)); have R2 := Lib.hid (R2.out.keep hst (Off.nil _)); have R3 := Lib.hid (R3.out.keep hst (Off.nil _)); have R4 := Lib.hid (R4.out.keep hst (Off.nil _)); have hbx := blk_st hst (by simp) BX.out; have c0 := blk_cell hbx 0; have c1 := blk_cell hbx 1; have c2 := blk_cell hbx 2; have lb := blk_lt hbx; simp at c0 c1 c2; have BX := Lib.hid hbx; have SS := Lib.hid (SS.out.trans hst); clear hst hbx)
    | (go_at_call 11; (with_reducible refine (same_st _ (some ⟨g4, 0, none⟩) A n kg4 c bs R4.out RA.out HN.out (by omega)).mono ?_); rintro e w' ⟨rfl, hst⟩; have RA := Lib.hid (RA.out.keep hst (Off.nil _)); have R0 := Lib.hid (R0.out.keep hst (Off.nil _)); have R1 := Lib.hid (R1.out.keep hst (Off.nil _)); have R2 := Lib.hid (R2.out.keep hst (Off.nil _)); have R3 := Lib.hid (R3.out.keep hst (Off.nil _)); have R4 := Lib.hid (R4.out.keep hst (Off.nil _)); have hbx := blk_st hst (by simp) BX.out; have c0 := blk_cell hbx 0; have c1 := blk_cell hbx 1; have c2 := blk_cell hbx 2; have lb := blk_lt hbx; simp at c0 c1 c2; have BX := Lib.hid hbx; have SS := Lib.hid (SS.out.trans hst); clear hst hbx)
    | (go_at_call 11; (with_reducible refine (same_st _ (some ⟨g0, 0, none⟩) A n k0 c bs R0.out RA.out HN.out (by omega)).mono ?_); rintro e w' ⟨rfl, hst⟩; have RA := Lib.hid (RA.out.keep hst (Off.nil _)); have R0 := Lib.hid (R0.out.keep hst (Off.nil _)); have R1 := Lib.hid (R1.out.keep hst (Off.nil _)); have R2 := Lib.hid (R2.out.keep hst (Off.nil _)); have R3 := Lib.hid (R3.out.keep hst (Off.nil _)); have R4 := Lib.hid (R4.out.keep hst (Off.nil _)); have hbx := blk_st hst (by simp) BX.out; have c0 := blk_cell hbx 0; have c1 := blk_cell hbx 1; have c2 := blk_cell hbx 2; have lb := blk_lt hbx; simp at c0 c1 c2; have BX := Lib.hid hbx; have SS := Lib.hid (SS.out.trans hst); clear hst hbx))
  go_ret
  exact ⟨rfl, SS.out.below⟩
end Go.Proofs.YtfegklafpjdemaaGreatDoor
