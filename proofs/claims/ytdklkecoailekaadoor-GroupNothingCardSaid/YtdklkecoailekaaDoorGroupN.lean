/- group.New. -/
import Derived.Test.YtdklkecoailekaaDoorGroup
set_option linter.unusedVariables false
namespace Go.Proofs.YtdklkecoailekaaDoor
open Go.RowKit Go Go.Shelf Go.Proofs.YtdklkecoailekaaDoorW Mq

/-- The cell of a group's code. -/
def tp (t : Nat → Nat) (i j : Nat) : Value := if j < i then .pointer (some ⟨t j, 0, none⟩) else .pointer none
/-- A group that is built up to its i-th code. -/
def gCells (t : Nat → Nat) (i : Nat) : Array Value := #[tp t i 0, tp t i 1, tp t i 2, tp t i 3, tp t i 4]
/-- A group at a block, of these lengths; the blocks that it stands on. -/
def IsG (w : World) (g : Nat) (F : List Nat) (ls : Nat → List Int) : Prop :=
  ∃ (t : Nat → Nat) (Ft : Nat → List Nat), w.heap[g]? = some (.cells (gCells t 5) 56 (0, 0)) ∧ (∀ i, i < 5 → IsT w (t i) (Ft i) (ls i)) ∧ (∀ i, i < 5 → ∀ b ∈ Ft i, b ∈ F) ∧ g ∈ F
theorem IsG.keep {F F' G : List Nat} {w w' : World} {g : Nat} {ls : Nat → List Int} (h : IsG w g G ls) (k : St F F' w w') (hd : ∀ b ∈ G, b ∉ F) : IsG w' g G ls := by
  obtain ⟨t, Ft, h1, h2, h3, h4⟩ := h
  exact ⟨t, Ft, blk_st k (hd g h4) h1, fun i hi => (h2 i hi).keep k (fun b hb => hd b (h3 i hi b hb)), h3, h4⟩

def GRel (w : World) (g : Nat) (ls : Nat → List Int) (i : Value) (wr : World) : Prop :=
  ∃ (k : Nat) (t : Nat → Nat) (Ft : Nat → List Nat), k ≤ 5 ∧ i = .int .i64 k ∧ wr.heap[g]? = some (.cells (gCells t k) 56 (0, 0)) ∧ (∀ j, j < k → IsT wr (t j) (Ft j) (ls j)) ∧
    (∀ j, j < k → ∀ b ∈ Ft j, b ≠ g ∧ w.heap.size ≤ b) ∧ w.heap.size ≤ g ∧ Below w.heap.size w wr
theorem gCells_set (t : Nat → Nat) (k x : Nat) (hk : k < 5) : (gCells t k).setIfInBounds k (.pointer (some ⟨x, 0, none⟩)) = gCells (fun j => if j = k then x else t j) (k + 1) := by
  have : k = 0 ∨ k = 1 ∨ k = 2 ∨ k = 3 ∨ k = 4 := by omega
  rcases this with rfl | rfl | rfl | rfl | rfl <;> rfl
theorem gCells_get (t : Nat → Nat) (k : Nat) (hk : k < 5) : (gCells t k)[k]? = some (.pointer none) := by
  have : k = 0 ∨ k = 1 ∨ k = 2 ∨ k = 3 ∨ k = 4 := by omega
  rcases this with rfl | rfl | rfl | rfl | rfl <;> rfl
theorem gCells_at (t : Nat → Nat) (k : Nat) (hk : k < 5) : (gCells t 5)[k]? = some (.pointer (some ⟨t k, 0, none⟩)) := by
  have : k = 0 ∨ k = 1 ∨ k = 2 ∨ k = 3 ∨ k = 4 := by omega
  rcases this with rfl | rfl | rfl | rfl | rfl <;> rfl
theorem grel_next (w wr w1 : World) (g x : Nat) (F : List Nat) (ls : Nat → List Int) (k : Nat) (t : Nat → Nat) (Ft : Nat → List Nat) (hk : k < 5) (hp : wr.heap[g]? = some (.cells (gCells t k) 56 (0, 0)))
    (hT : ∀ j, j < k → IsT wr (t j) (Ft j) (ls j)) (hF : ∀ j, j < k → ∀ b ∈ Ft j, b ≠ g ∧ w.heap.size ≤ b) (hg : w.heap.size ≤ g) (hB : Below w.heap.size w wr)
    (hx : IsT w1 x F (ls k)) (hS : St [] F wr w1) (hfr : ∀ b ∈ F, wr.heap.size ≤ b) :
    GRel w g ls (.int .i64 ((k : Int) + 1)) (w1.setCell ⟨g, k, none⟩ (.pointer (some ⟨x, 0, none⟩))) := by
  have hlt := blk_lt hp
  have hp1 := blk_st hS (by simp) hp
  have hp2 := blk_set hp1 k (.pointer (some ⟨x, 0, none⟩))
  rw [gCells_set _ _ _ hk] at hp2
  have hset : St [g] [g] w1 (w1.setCell ⟨g, k, none⟩ (.pointer (some ⟨x, 0, none⟩))) := (St.refl [g] w1).setCell (by simp) _
  refine ⟨k + 1, _, fun j => if j = k then F else Ft j, hk, rfl, hp2, fun j hj => ?_, fun j hj => ?_, hg, ?_⟩
  · by_cases e : j = k
    · subst e
      simp only [if_pos rfl]
      exact hx.keep hset (fun b hb => by have := hfr b hb; simp; omega)
    · simp only [if_neg e]
      exact ((hT j (by omega)).keep hS (by simp)).keep hset (fun b hb => by have := hF j (by omega) b hb; simp; exact this.1)
  · by_cases e : j = k
    · subst e
      simp only [if_pos rfl]
      intro b hb
      have := hfr b hb
      have := hB.size
      omega
    · simp only [if_neg e]
      exact hF j (by omega)
  · exact (hB.trans (hS.below_new.mono hB.size)).setCell (p := ⟨g, k, none⟩) hg _

set_option maxHeartbeats 1000000 in
theorem newgroup_ok (w : World) (c : Int) (A : Nat → Option Addr) (q : Nat → Nat) (ls : Nat → List Int) (hm : mayC c = true) (hl0 : ((ls 0).length : Int) = greensOf c) (hl1 : (ls 1).length = 256) (hl2 : (ls 2).length = 256)
    (hl3 : (ls 3).length = 256) (hl4 : (ls 4).length = 40) (hR : ∀ i, i < 5 → Rd w (A i) (ints (ls i))) (hq : ∀ i, i < 5 → (ls i).length ≤ q i) (hok : ∀ i, i < 5 → checkE (ls i) = 0) (hs : ∀ i, i < 5 → 2 ≤ many (ls i) → SortSaid (many (ls i))) :
    Calls Tryd.prog 6 #[.agg #[.slice (A 0) (ls 0).length (q 0), .slice (A 1) (ls 1).length (q 1), .slice (A 2) (ls 2).length (q 2), .slice (A 3) (ls 3).length (q 3), .slice (A 4) (ls 4).length (q 4)], .int .i64 c] w fun e w' =>
      ∃ g F, e = .returned (.tuple #[.pointer (some ⟨g, 0, none⟩), .int .i64 0]) ∧ IsG w' g F ls ∧ (∀ b ∈ F, w.heap.size ≤ b) ∧ Below w.heap.size w w' := by
  have hgr := greens_lt c (by unfold mayC at hm; simp at hm; omega)
  have HM := Lib.hid hm
  have HR := Lib.hid hR
  have HO := Lib.hid hok
  have HS := Lib.hid hs
  have HQ := Lib.hid hq
  have HL : Hid (∀ i, i < 5 → (ls i).length ≤ 2 ^ 43) := by
    intro i hi
    have : i = 0 ∨ i = 1 ∨ i = 2 ∨ i = 3 ∨ i = 4 := by omega
    rcases this with rfl | rfl | rfl | rfl | rfl <;> omega
  have hsz : sizesV c = .agg #[.int .i64 (ls 0).length, .int .i64 (ls 1).length, .int .i64 (ls 2).length, .int .i64 (ls 3).length, .int .i64 (ls 4).length] := by unfold sizesV; rw [if_pos hm, hl0, hl1, hl2, hl3, hl4]; rfl
  have HZ := Lib.hid hsz
  have hat : ∀ k, k < 5 → #[Value.slice (A 0) (ls 0).length (q 0), .slice (A 1) (ls 1).length (q 1), .slice (A 2) (ls 2).length (q 2), .slice (A 3) (ls 3).length (q 3), .slice (A 4) (ls 4).length (q 4)][k]? = some (.slice (A k) (ls k).length (q k)) := by
    intro i hi
    have : i = 0 ∨ i = 1 ∨ i = 2 ∨ i = 3 ∨ i = 4 := by omega
    rcases this with rfl | rfl | rfl | rfl | rfl <;> rfl
  have hat2 : ∀ k, k < 5 → #[Value.int .i64 (ls 0).length, .int .i64 (ls 1).length, .int .i64 (ls 2).length, .int .i64 (ls 3).length, .int .i64 (ls 4).length][k]? = some (.int .i64 (ls k).length) := by
    intro i hi
    have : i = 0 ∨ i = 1 ∨ i = 2 ∨ i = 3 ∨ i = 4 := by omega
    rcases this with rfl | rfl | rfl | rfl | rfl <;> rfl
  have HA := Lib.hid hat
  have HA2 := Lib.hid hat2
  clear hR hok hs hq hsz hm hl0 hl1 hl2 hl3 hl4 hgr hat hat2
  go_enter Tryd.func6, Tryd.ntmps6
  go_wp2_with (go_at_call 14; refine (sizes_calls _ _).mono ?_; rintro e w' ⟨rfl, hq1⟩; rw [HZ.out]; have hb0 := blk_st hq1 (by simp) (blk_new w _); have hlt0 := blk_lt hb0; have b0 := blk_cell hb0 0; have b1 := blk_cell hb0 1; have b2 := blk_cell hb0 2; have b3 := blk_cell hb0 3; have b4 := blk_cell hb0 4; simp at b0 b1 b2 b3 b4; have HB0 := Lib.hid hb0; have Q1 := Lib.hid hq1; clear hq1 hb0)
  have hz0 := blk_new w' (.cells #[.int .i64 (ls 0).length, .int .i64 (ls 1).length, .int .i64 (ls 2).length, .int .i64 (ls 3).length, .int .i64 (ls 4).length] 50)
  have hz1 := blk_old HB0.out (.cells #[.int .i64 (ls 0).length, .int .i64 (ls 1).length, .int .i64 (ls 2).length, .int .i64 (ls 3).length, .int .i64 (ls 4).length] 50)
  have hst0 := (((St.refl [] w).alloc (.cells #[.slice (A 0) (ls 0).length (q 0), .slice (A 1) (ls 1).length (q 1), .slice (A 2) (ls 2).length (q 2), .slice (A 3) (ls 3).length (q 3), .slice (A 4) (ls 4).length (q 4)] 27)).trans Q1.out).alloc (.cells #[.int .i64 (ls 0).length, .int .i64 (ls 1).length, .int .i64 (ls 2).length, .int .i64 (ls 3).length, .int .i64 (ls 4).length] 50)
  obtain ⟨W0, hW0⟩ : ∃ W0, w'.alloc (.cells #[.int .i64 (ls 0).length, .int .i64 (ls 1).length, .int .i64 (ls 2).length, .int .i64 (ls 3).length, .int .i64 (ls 4).length] 50) = W0 := ⟨_, rfl⟩
  rw [hW0] at hz0 hz1 hst0 ⊢
  have HC : Hid (∀ k, k < 5 → W0.cell? ⟨w'.heap.size, k, none⟩ = some (.int .i64 (ls k).length)) := fun k hk => (blk_cell hz0 k).trans (HA2.out k hk)
  have HB1 := Lib.hid hz1
  have HS0 := Lib.hid hst0
  clear hz0 hz1 hst0 hW0 b0 b1 b2 b3 b4 HB0 Q1
  go_loopw [17] (fun i wr => ∃ k : Nat, k ≤ 5 ∧ i = .int .i64 k ∧ wr = W0) (fun i _ => 5 - (intOf i).toNat)
  case atStart => exact ⟨0, by omega, rfl, rfl⟩
  case round =>
    obtain ⟨k, hk, rfl, rfl⟩ := hrel
    by_cases hlt : k < 5
    · have x0 := run_index_one (P := Tryd.prog) (t := 27) (i := (k : Int)) Tryd.underlying27 Tryd.underlying25 rfl (by kernel_rfl) (by omega) (by omega) (HA.out k hlt)
      have c0 := HC.out k hlt
      go_wp2_with (go_at_call 16; refine (may_calls _ _).mono ?_; rintro e w' ⟨rfl, rfl⟩; rw [HM.out])
      case roundEnd =>
        refine ⟨⟨k + 1, hlt, rfl, trivial⟩, ?_⟩
        show 5 - ((k : Int) + 1).toNat < 5 - (k : Int).toNat
        omega
    · have hlt1 := blk_lt HB1.out
      have b0 := blk_cell HB1.out 0
      have b1 := blk_cell HB1.out 1
      have b2 := blk_cell HB1.out 2
      have b3 := blk_cell HB1.out 3
      have b4 := blk_cell HB1.out 4
      simp at b0 b1 b2 b3 b4
      go_wp2
      have hbel0 : Below w.heap.size w (wr.alloc (.cells #[.pointer none, .pointer none, .pointer none, .pointer none, .pointer none] 56)) := HS0.out.below.alloc HS0.out.size _
      have hgb : w.heap.size ≤ wr.heap.size := HS0.out.size
      have hg0 := blk_new wr (.cells #[.pointer none, .pointer none, .pointer none, .pointer none, .pointer none] 56)
      obtain ⟨g, hgg⟩ : ∃ g, wr.heap.size = g := ⟨_, rfl⟩
      obtain ⟨W1, hW1⟩ : ∃ W1, wr.alloc (.cells #[.pointer none, .pointer none, .pointer none, .pointer none, .pointer none] 56) = W1 := ⟨_, rfl⟩
      rw [hgg] at hg0 hgb ⊢
      rw [hW1] at hbel0 hg0 ⊢
      have G1 := Lib.hid hbel0
      have G2 := Lib.hid hg0
      have G3 := Lib.hid hgb
      clear hbel0 hg0 hgb hgg hW1 b0 b1 b2 b3 b4 hlt1
      go_loopw [36] (fun i wr => GRel w g ls i wr) (fun i _ => 5 - (intOf i).toNat)
      case atStart => exact ⟨0, fun _ => 0, fun _ => [], by omega, rfl, G2.out, fun j hj => absurd hj (by omega), fun j hj => absurd hj (by omega), G3.out, G1.out⟩
      case round =>
        obtain ⟨k, t, Ft, hk, rfl, hp, hT, hF, hg, hB⟩ := hrel
        by_cases hlt : k < 5
        · have x0 := run_index_one (P := Tryd.prog) (t := 27) (i := (k : Int)) Tryd.underlying27 Tryd.underlying25 rfl (by kernel_rfl) (by omega) (by omega) (HA.out k hlt)
          have K0 := Lib.hid hp
          have K1 := Lib.hid hT
          have K2 := Lib.hid hF
          have K3 := Lib.hid hg
          have K4 := Lib.hid hB
          have K5 := Lib.hid hlt
          clear hp hT hF hg hB
          go_wp2_with (go_at_call 17; refine (newtree_ok _ _ _ _ ((HR.out k K5.out).below K4.out) (HL.out k K5.out) (HQ.out k K5.out) (HO.out k K5.out) (HS.out k K5.out)).mono ?_; rintro e w' ⟨x, F, rfl, hq1, hq2⟩; have hp2 := blk_st hq2 (by simp) K0.out; have c0 := (blk_cell hp2 k).trans (gCells_get t k K5.out); have f0 := blk_free hp2 k; have Q1 := Lib.hid hq1; have Q2 := Lib.hid hq2; clear hq1 hq2 hp2)
          case roundEnd =>
            refine ⟨grel_next w wr w' g x F ls k t Ft K5.out K0.out K1.out K2.out K3.out K4.out Q1.out (Q2.out.less (by simp)) (fun b hb => (Q2.out.sub b hb).resolve_left (by simp)), ?_⟩
            show 5 - ((k : Int) + 1).toNat < 5 - (k : Int).toNat
            omega
        · obtain rfl : k = 5 := by omega
          go_wp2
          go_ret2
          have hm : ∀ i, i < 5 → ∀ b ∈ Ft i, b ∈ g :: (Ft 0 ++ Ft 1 ++ Ft 2 ++ Ft 3 ++ Ft 4) := by
            intro i hi b hb
            have : i = 0 ∨ i = 1 ∨ i = 2 ∨ i = 3 ∨ i = 4 := by omega
            rcases this with rfl | rfl | rfl | rfl | rfl <;> simp [hb]
          refine ⟨g, g :: (Ft 0 ++ Ft 1 ++ Ft 2 ++ Ft 3 ++ Ft 4), rfl, ⟨t, Ft, hp, hT, hm, by simp⟩, ?_, hB⟩
          intro b hb
          simp only [List.mem_cons, List.mem_append] at hb
          rcases hb with rfl | (((hb | hb) | hb) | hb) | hb
          · exact hg
          · exact (hF 0 (by omega) b hb).2
          · exact (hF 1 (by omega) b hb).2
          · exact (hF 2 (by omega) b hb).2
          · exact (hF 3 (by omega) b hb).2
          · exact (hF 4 (by omega) b hb).2
end Go.Proofs.YtdklkecoailekaaDoor
