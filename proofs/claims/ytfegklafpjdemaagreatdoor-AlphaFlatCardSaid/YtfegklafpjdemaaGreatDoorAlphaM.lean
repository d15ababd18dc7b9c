/- AlphaFlat: the walk. -/
import Derived.Test.YtfegklafpjdemaaGreatDoorAlphaL
set_option linter.unusedVariables false
set_option linter.unusedSimpArgs false
namespace Go.Proofs.YtfegklafpjdemaaGreatDoor
open Go.RowKit Go Go.Proofs.YtfegklafpjdemaaGreatDoorW Mq

/-- What stands in the head of a round of the loop that fills a plane. -/
def FlRel (w : World) (W H c : Nat) (i : Value) (wr : World) : Prop :=
  ∃ (k : Nat) (v : Value), k ≤ W * H ∧ i = .int .i64 k ∧ wr.heap[w.heap.size]? = some (.cells #[.int .i64 W, .int .i64 H, v] 24 (0, 0)) ∧ Own wr 5 1 v k (u8s (List.replicate k c)) ∧
    (∀ b, v.ownBlock = some b → w.heap.size < b) ∧ Below w.heap.size w wr
theorem flrel_next (w wr w1 : World) (W H c k : Nat) (v v' : Value) (hk : k < W * H) (hp : wr.heap[w.heap.size]? = some (.cells #[.int .i64 W, .int .i64 H, v] 24 (0, 0)))
    (hown : Own w1 5 1 v' (k + 1) (u8s (List.replicate k c) ++ [.int .u8 (c : Int)])) (hv : ∀ b, v.ownBlock = some b → w.heap.size < b) (hb : Below w.heap.size w wr)
    (hp1 : w1.heap[w.heap.size]? = some (.cells #[.int .i64 W, .int .i64 H, v] 24 (0, 0)))
    (hg : (wr.alloc (.cells #[.int .u8 (c : Int)] 5)).grownBy w1 v.ownBlock) (hat : v'.ownBlock = v.ownBlock ∨ v'.ownBlock = some (wr.heap.size + 1)) :
    FlRel w W H c (.int .i64 ((k : Int) + 1)) (w1.setCell ⟨w.heap.size, 2, none⟩ v') := by
  have hlt := blk_lt hp
  have hne : v'.ownBlock ≠ some w.heap.size := hown.ne hp1 (by decide)
  refine ⟨k + 1, v', hk, rfl, ?_, ?_, ?_, ?_⟩
  · have := blk_set hp1 2 v'
    exact this
  · have h1 := Own.setCell hown (a := ⟨w.heap.size, 2, none⟩) hne v'
    have e : u8s (List.replicate k c) ++ [.int .u8 (c : Int)] = u8s (List.replicate (k + 1) c) := by rw [List.replicate_succ']; simp [u8s]
    rw [e] at h1
    exact h1
  · intro b hb'
    rcases hat with h | h
    · exact hv b (by rw [← h]; exact hb')
    · rw [h] at hb'
      injection hb' with hb'
      omega
  · have hs : w.heap.size ≤ wr.heap.size := hb.size
    have b1 : Below w.heap.size w (wr.alloc (.cells #[.int .u8 (c : Int)] 5)) := hb.alloc hs _
    have b2 : Below w.heap.size w w1 := b1.trans ⟨hg.os, hg.tape, hg.output, hg.size, fun j hj => hg.block j (by rw [World.size_alloc]; omega) (fun e => by have := hv j e.symm; omega)⟩
    exact b2.setCell (p := ⟨w.heap.size, 2, none⟩) (Nat.le_refl _) _
set_option maxHeartbeats 2000000 in
set_option maxRecDepth 8000 in
theorem flat_walk (w : World) (x y fl : Int) (c : Nat) (hx : 0 ≤ x ∧ x < 256) (hy : 0 ≤ y ∧ y < 256) (hfl : 0 ≤ fl ∧ fl < 256) (hc : c < 256) :
    Calls Tryz.prog 5 #[.int .u8 x, .int .u8 y, .int .u8 fl, .int .u8 c] w (YesPost w) := by
  obtain ⟨W, hW⟩ : ∃ W : Nat, x % 20 + 1 = (W : Int) := ⟨(x % 20 + 1).toNat, by omega⟩
  obtain ⟨H, hH⟩ : ∃ H : Nat, y % 20 + 1 = (H : Int) := ⟨(y % 20 + 1).toNat, by omega⟩
  obtain ⟨f, hf⟩ : ∃ f : Nat, 1 + fl % 3 = (f : Int) := ⟨(1 + fl % 3).toNat, by omega⟩
  have hW2 : 1 ≤ W ∧ W ≤ 20 := by omega
  have hH2 : 1 ≤ H ∧ H ≤ 20 := by omega
  have hf2 : 1 ≤ f ∧ f ≤ 3 := by omega
  obtain ⟨N, hN⟩ : ∃ N, W * H = N := ⟨_, rfl⟩
  have hNi : (W : Int) * (H : Int) = (N : Int) := by rw [← hN]; exact (Int.natCast_mul W H).symm
  have hN1 : 1 ≤ N := by rw [← hN]; exact Nat.mul_pos hW2.1 hH2.1
  have hN2 : N ≤ 400 := by rw [← hN]; exact Nat.mul_le_mul hW2.2 hH2.2
  have hgood : goodB (W : Int) (H : Int) N = true := by unfold goodB sideB; simp; omega
  have x1 := hx.1
  have x2 := hx.2
  have y1 := hy.1
  have y2 := hy.2
  have f1 := hfl.1
  have f2 := hfl.2
  have W1 := hW2.1
  have W2 := hW2.2
  have H1 := hH2.1
  have H2 := hH2.2
  have HN := Lib.hid hN
  have HG := Lib.hid hgood
  have HF2 := Lib.hid hf2
  clear hN hgood hf2 hx hy hfl hW2 hH2
  go_enter Tryz.func5, Tryz.ntmps5
  go_wp2
  go_loopw [10] (fun i wr => FlRel w W H c i wr) (fun i _ => N - (intOf i).toNat)
  case atStart => exact ⟨0, .slice none 0 0, by omega, rfl, blk_new w _, World.ownsRow_nil _ _ _ _, fun b hb => by simp [Value.ownBlock] at hb, (Below.refl _ w).alloc (Nat.le_refl _) _⟩
  case round =>
    obtain ⟨k, v, hk, rfl, hp, hown, hv, hb⟩ := hrel
    rw [HN.out] at hk
    obtain ⟨A0, k0, rfl⟩ := Own.shape hown
    have c0 := blk_cell hp 0
    have c1 := blk_cell hp 1
    have c2 := blk_cell hp 2
    have fr2 := blk_free hp 2
    have lb := blk_lt hp
    simp at c0 c1 c2
    have P1 := Lib.hid hp
    have O1 := Lib.hid hown
    have V1 := Lib.hid hv
    have B1 := Lib.hid hb
    clear hp hown hv hb
    by_cases hlt : k < N
    · have hne : (Value.slice A0 k k0).ownBlock ≠ some w.heap.size := O1.out.ne P1.out (by decide)
      have hsrc : Src Tryz.prog 1 22 (.slice (some ⟨wr.heap.size, 0, none⟩) 1 1) 1 (u8s [c]) (wr.alloc (.cells #[.int .u8 (c : Int)] 5)) := Src.ofRd Tryz.underlying22 _ 1 1 _ rfl (by decide) (Rd.of_own (own_one wr c)) (u8s_one _)
      have S1 := Lib.hid hsrc
      have NE := Lib.hid hne
      clear hsrc hne
      go_wp2_with (at_builtin; refine wpList_app _ rfl _ (.tmp 38) 22 22 rfl 5 (.int .u8 0) 1 1 Tryz.underlying22 Tryz.info5 rfl (by decide) (.slice A0 k k0) k _ rfl (World.ownsRow.alloc O1.out _) _ _ _ rfl S1.out ?_ ?_ ?_)
      · unfold maxLen; omega
      · omega
      intro v' w1 hown hg _ hat
      obtain ⟨A', k1, rfl⟩ := Own.shape hown
      have hp1 : w1.heap[w.heap.size]? = some (.cells #[.int .i64 W, .int .i64 H, .slice A0 k k0] 24 (0, 0)) := blk_grown hg (fun e => NE.out e.symm) (blk_old P1.out _)
      have d2 := blk_cell hp1 2
      have e2 := blk_free hp1 2
      simp at d2
      have hnx := flrel_next w wr w1 W H c k (.slice A0 k k0) (.slice A' (k + 1) k1) (by rw [HN.out]; exact hlt) P1.out (by simpa [u8s] using hown) V1.out B1.out hp1 hg (by simpa [World.size_alloc] using hat)
      have NX := Lib.hid hnx
      clear hown hg hat hp1 hnx
      go_wp2
      case roundEnd =>
        refine ⟨NX.out, ?_⟩
        show N - ((k : Int) + 1).toNat < N - (k : Int).toNat
        omega
    · obtain rfl : k = N := by omega
      obtain ⟨wo, rfl⟩ : ∃ wo : World, wo = wr := ⟨_, rfl⟩
      obtain ⟨g, k1, e1⟩ := own_some O1.out (by omega)
      injection e1 with e1 e2 e3
      subst e1 e3
      have hR := Rd.of_own O1.out
      have hl : (List.replicate k c).length = k := by simp
      have h8 : ∀ b ∈ List.replicate k c, b < 256 := fun b hb => by rw [List.eq_of_mem_replicate hb]; exact hc
      have hfl : ∀ i, i < k → (forthL (List.replicate k c) W f).getD i 0 = if i = 0 then c else 0 := fun i hi => forth_flat k c W f i W1 (by have := HF2.out; omega) hi hc
      have hfn := forth_none (List.replicate k c) W h8
      have hl1 : (forthL (List.replicate k c) W f).length = k := by rw [forthL_length]; exact hl
      have SS := Lib.hid B1.out
      have R0 := Lib.hid hR
      have L0 := Lib.hid hl
      have H8 := Lib.hid h8
      have FL := Lib.hid hfl
      have FN := Lib.hid hfn
      have L1 := Lib.hid hl1
      clear hR hl h8 hfl hfn hl1 O1 V1 B1
      go_wp2_with (go_at_call 8; refine (forth_good _ W H (some ⟨g, 0, none⟩) k k0 (List.replicate k c) f (f : Int) rfl HF2.out.2 HG.out R0.out L0.out H8.out).mono ?_; rintro e w2 ⟨g2, k2, rfl, hown, hgg, hst⟩; have hst := hst.less (G := []) (by simp); have hbx := blk_st hst (by simp) P1.out; have q0 := blk_cell hbx 0; have q1 := blk_cell hbx 1; have q2 := blk_cell hbx 2; have lq := blk_lt hbx; simp at q0 q1 q2; have ca := own_cell hown L1.out (show 0 < k by omega); rw [FL.out 0 (by omega), if_pos rfl] at ca; have lg2 := own_blk hown; have R1 := Lib.hid (R0.out.keep hst (Off.nil _)); have O2 := Lib.hid hown; have P2 := Lib.hid hbx; have S2 := Lib.hid hst; clear hst hown hgg hbx)
      go_loopw [14] (fun i wr => ∃ j : Nat, 1 ≤ j ∧ j ≤ k ∧ i = .int .i64 j ∧ wr = w2) (fun i _ => k - (intOf i).toNat)
      case atStart => exact ⟨1, by omega, by omega, rfl, rfl⟩
      case round =>
        obtain ⟨j, hj1, hj2, rfl, rfl⟩ := hrel
        by_cases hjl : j < k
        · have cj := own_cell O2.out L1.out hjl
          rw [FL.out j hjl, if_neg (by omega)] at cj
          go_wp2
          case roundEnd =>
            refine ⟨⟨j + 1, by omega, by omega, rfl, trivial⟩, ?_⟩
            show k - ((j : Int) + 1).toNat < k - (j : Int).toNat
            omega
        · go_wp2_with (first
            | (go_at_call 8; refine (forth_good _ W H (some ⟨g, 0, none⟩) k k0 (List.replicate k c) 0 0 rfl (by decide) HG.out R1.out L0.out H8.out).mono ?_; rintro e w3 ⟨g3, k3, rfl, hown, hgg, hst⟩; have hst := hst.less (G := []) (by simp); rw [FN.out] at hown; have hbx := blk_st hst (by simp) P2.out; have e0 := blk_cell hbx 0; have e1 := blk_cell hbx 1; have e2 := blk_cell hbx 2; have le := blk_lt hbx; simp at e0 e1 e2; have R2 := Lib.hid (R1.out.keep hst (Off.nil _)); have R3 := Lib.hid (Rd.of_own hown); have P3 := Lib.hid hbx; have S3 := Lib.hid hst; clear hst hown hgg hbx)
            | (go_at_call 7; refine (answers_calls _).mono ?_; rintro e w4 ⟨rfl, hst⟩; have hbx := blk_st hst (by simp) P3.out; have u0 := blk_cell hbx 0; have u1 := blk_cell hbx 1; have u2 := blk_cell hbx 2; have lu := blk_lt hbx; simp at u0 u1 u2; have R2 := Lib.hid (R2.out.keep hst (Off.nil _)); have R3 := Lib.hid (R3.out.keep hst (Off.nil _)); have S4 := Lib.hid hst; clear hst hbx)
            | (go_at_call 11; refine (same_st _ (some ⟨g3, 0, none⟩) (some ⟨g, 0, none⟩) k k3 k0 (List.replicate k c) R3.out R2.out L0.out (by omega)).mono ?_; rintro e w5 ⟨rfl, hst⟩; have S5 := Lib.hid hst; clear hst))
          go_ret
          refine ⟨rfl, ?_⟩
          have z1 : w.heap.size ≤ wo.heap.size := SS.out.size
          exact SS.out.trans ((((S2.out.trans S3.out).trans S4.out).trans S5.out).below.mono z1)
end Go.Proofs.YtfegklafpjdemaaGreatDoor
