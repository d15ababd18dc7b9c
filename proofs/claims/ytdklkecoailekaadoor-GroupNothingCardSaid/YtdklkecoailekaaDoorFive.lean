/- The law's own words: ref17.Sizes, five. -/
import Derived.Test.YtdklkecoailekaaDoorParts
import Derived.Test.YtdklkecoailekaaDoorPOne
import Derived.Deep.OwnRows
set_option linter.unusedVariables false
namespace Go.Proofs.YtdklkecoailekaaDoor
open Go.RowKit Go Go.Shelf Go.Proofs.YtdklkecoailekaaDoorW Mq

theorem rsizes_calls (w : World) (k : Nat) (hk : k ≤ 11) : Calls Tryd.prog 15 #[.int .i64 k] w fun e w' => e = .returned (.agg #[.int .i64 (greensOf k), .int .i64 256, .int .i64 256, .int .i64 256, .int .i64 40]) ∧ St [] [] w w' := by
  by_cases h0 : 0 < (k : Int)
  · have h3 : 2 ^ k ≤ 2048 := Nat.pow_le_pow_right (n := 2) (by decide) (show k ≤ 11 by omega)
    have hk : (2 : Int) ^ k = ((2 ^ k : Nat) : Int) := by rw [Int.natCast_pow]; rfl
    have h4 : 0 ≤ (2 : Int) ^ k := by rw [hk]; exact Int.natCast_nonneg _
    have h5 : (2 : Int) ^ k ≤ 2048 := by rw [hk]; omega
    clear hk
    go_enter Tryd.func15, Tryd.ntmps15
    go_wp2
    refine bodyPost_ret (results_cell_row rfl _ _ _ _ _ _ _ rfl (blk_old (blk_new _ _) _) Tryd.underlying50 rfl (by kernel_rfl)) rfl ?_
    refine ⟨by unfold greensOf; rw [if_pos h0]; rfl, ?_⟩
    exact ((St.refl [] w).alloc _).alloc _
  · go_enter Tryd.func15, Tryd.ntmps15
    go_wp2
    refine bodyPost_ret (results_cell_row rfl _ _ _ _ _ _ _ rfl (blk_old (blk_new _ _) _) Tryd.underlying50 rfl (by kernel_rfl)) rfl ?_
    refine ⟨by unfold greensOf; rw [if_neg (show ¬0 < (k : Int) by omega)]; rfl, ?_⟩
    exact ((St.refl [] w).alloc _).alloc _

/-- How many symbols each code of a group has. -/
def nOf (c : Nat) (i : Nat) : Nat := match i with | 0 => (greensOf c).toNat | 4 => 40 | _ => 256
theorem nOf_0 (c : Nat) : ((nOf c 0 : Nat) : Int) = greensOf c := by
  have : 280 ≤ greensOf c := by
    unfold greensOf
    split
    · have h2 : (2 : Int) ^ ((c : Int).toNat) = ((2 ^ c : Nat) : Int) := by rw [Int.toNat_natCast, Int.natCast_pow]; rfl
      rw [h2]
      have := Int.natCast_nonneg (2 ^ c)
      generalize ((2 ^ c : Nat) : Int) = z at this ⊢
      omega
    · omega
  show ((greensOf c).toNat : Int) = _
  omega
theorem nOf_bound (c i : Nat) (hc : c ≤ 11) : 40 ≤ nOf c i ∧ nOf c i ≤ 2328 := by
  have h := greens_lt c (by omega)
  unfold nOf
  split <;> omega
/-- The cell of the five that are made up to the k-th. -/
def fv (R N : Nat → Nat) (k j : Nat) : Value := if j < k then .slice (some ⟨R j, 0, none⟩) (N j) (N j) else .slice none 0 0
def fCells (R N : Nat → Nat) (k : Nat) : Array Value := #[fv R N k 0, fv R N k 1, fv R N k 2, fv R N k 3, fv R N k 4]
theorem fCells_set (R N : Nat → Nat) (k x : Nat) (hk : k < 5) : (fCells R N k).setIfInBounds k (.slice (some ⟨x, 0, none⟩) (N k) (N k)) = fCells (fun j => if j = k then x else R j) N (k + 1) := by
  have : k = 0 ∨ k = 1 ∨ k = 2 ∨ k = 3 ∨ k = 4 := by omega
  rcases this with rfl | rfl | rfl | rfl | rfl <;> rfl
theorem fCells_get (R N : Nat → Nat) (k : Nat) (hk : k < 5) : (fCells R N k)[k]? = some (.slice none 0 0) := by
  have : k = 0 ∨ k = 1 ∨ k = 2 ∨ k = 3 ∨ k = 4 := by omega
  rcases this with rfl | rfl | rfl | rfl | rfl <;> rfl
def rowI (l : List Int) : Obj := .cells (ints l).toArray 3 (0, 0)
def FRel (w : World) (B fb nb ab rb : Nat) (N at_ : Nat → Nat) (nc ac : Array Value) (i : Value) (wr : World) : Prop :=
  ∃ (k : Nat) (R : Nat → Nat), k ≤ 5 ∧ i = .int .i64 k ∧ wr.heap[fb]? = some (.cells (fCells R N k) 27 (0, 0)) ∧ wr.heap[nb]? = some (.cells nc 50 (0, 0)) ∧ wr.heap[ab]? = some (.cells ac 31 (0, 0)) ∧ (∃ R0 : Nat → Nat, wr.heap[rb]? = some (.cells (fCells R0 N 0) 27 (0, 0))) ∧
    (∀ j, j < k → wr.heap[R j]? = some (rowI (oneAt (N j) (at_ j % N j))) ∧ B ≤ R j) ∧ B ≤ wr.heap.size ∧ Below w.heap.size w wr
theorem frel_next (w wr : World) (B fb nb ab rb : Nat) (N at_ : Nat → Nat) (nc ac : Array Value) (k : Nat) (R : Nat → Nat) (hk : k < 5) (hw : w.heap.size ≤ B) (hfw : w.heap.size ≤ fb) (hf : fb < B) (hn : nb < B) (ha : ab < B) (hr : rb < B) (hfn : fb ≠ nb) (hfa : fb ≠ ab) (hfr : fb ≠ rb)
    (h1 : wr.heap[fb]? = some (.cells (fCells R N k) 27 (0, 0))) (h2 : wr.heap[nb]? = some (.cells nc 50 (0, 0))) (h3 : wr.heap[ab]? = some (.cells ac 31 (0, 0))) (h4 : ∃ R0 : Nat → Nat, wr.heap[rb]? = some (.cells (fCells R0 N 0) 27 (0, 0)))
    (h5 : ∀ j, j < k → wr.heap[R j]? = some (rowI (oneAt (N j) (at_ j % N j))) ∧ B ≤ R j) (h6 : B ≤ wr.heap.size) (h7 : Below w.heap.size w wr) (m : Nat) :
    FRel w B fb nb ab rb N at_ nc ac (.int .i64 ((k : Int) + 1)) ((((wr.setCell ⟨fb, k, none⟩ (.slice (some ⟨wr.heap.size, 0, none⟩) (N k) (N k))).alloc (.cells (madeCells #[.int .i64 0] (N k)) 3)).drewN m).setCell ⟨wr.heap.size, at_ k % N k, none⟩ (.int .i64 1)) := by
  have hsz : (wr.setCell ⟨fb, k, none⟩ (.slice (some ⟨wr.heap.size, 0, none⟩) (N k) (N k))).heap.size = wr.heap.size := by simp [World.setCell]
  obtain ⟨W, hW⟩ : ∃ W, ((wr.setCell ⟨fb, k, none⟩ (.slice (some ⟨wr.heap.size, 0, none⟩) (N k) (N k))).alloc (.cells (madeCells #[.int .i64 0] (N k)) 3)).drewN m = W := ⟨_, rfl⟩
  have keep0 : ∀ (b : Nat) (o : Obj), b ≠ fb → wr.heap[b]? = some o → W.heap[b]? = some o := by
    intro b o hbf h
    rw [← hW]
    exact blk_old (w := wr.setCell ⟨fb, k, none⟩ (.slice (some ⟨wr.heap.size, 0, none⟩) (N k) (N k))) (by rw [blk_other hbf]; exact h) _
  have keep : ∀ (b : Nat) (o : Obj), b ≠ fb → wr.heap[b]? = some o → (W.setCell ⟨wr.heap.size, at_ k % N k, none⟩ (.int .i64 1)).heap[b]? = some o := by
    intro b o hbf h
    have := blk_lt h
    rw [blk_other (by show b ≠ wr.heap.size; omega)]
    exact keep0 b o hbf h
  have hnew0 : W.heap[wr.heap.size]? = some (.cells (madeCells #[.int .i64 0] (N k)) 3 (0, 0)) := by
    have := blk_new (wr.setCell ⟨fb, k, none⟩ (.slice (some ⟨wr.heap.size, 0, none⟩) (N k) (N k))) (.cells (madeCells #[.int .i64 0] (N k)) 3)
    rw [hsz] at this
    rw [← hW]
    exact this
  have hnew : (W.setCell ⟨wr.heap.size, at_ k % N k, none⟩ (.int .i64 1)).heap[wr.heap.size]? = some (rowI (oneAt (N k) (at_ k % N k))) := by
    rw [blk_set hnew0]
    have : (madeCells #[Value.int .i64 0] (N k)).setIfInBounds (at_ k % N k) (.int .i64 1) = (ints (oneAt (N k) (at_ k % N k))).toArray := by
      apply Array.ext'
      rw [Array.toList_setIfInBounds, toList_madeCells_one]
      simp [ints, oneAt, List.map_set]
    rw [this]
    rfl
  have hfin : (W.setCell ⟨wr.heap.size, at_ k % N k, none⟩ (.int .i64 1)).heap[fb]? = some (.cells (fCells (fun j => if j = k then wr.heap.size else R j) N (k + 1)) 27 (0, 0)) := by
    rw [blk_other (by show fb ≠ wr.heap.size; omega), ← hW]
    have := blk_set h1 k (.slice (some ⟨wr.heap.size, 0, none⟩) (N k) (N k))
    rw [fCells_set _ _ _ _ hk] at this
    exact blk_old this _
  have hbel : Below w.heap.size w W := by
    rw [← hW]
    exact pw_drewN ((h7.setCell (p := ⟨fb, k, none⟩) hfw _).alloc (by rw [hsz]; omega) _) m
  have hsz2 : B ≤ W.heap.size := by
    rw [← hW]
    exact Nat.le_trans h6 ((((St.refl [fb, wr.heap.size] wr).setCell (p := ⟨fb, k, none⟩) (by simp) _).alloc _).drewN m).size
  rw [hW]
  refine ⟨k + 1, fun j => if j = k then wr.heap.size else R j, hk, rfl, hfin, keep nb _ hfn.symm h2, keep ab _ hfa.symm h3, ?_, ?_, ?_, ?_⟩
  · obtain ⟨R0, h4⟩ := h4
    exact ⟨R0, keep rb _ hfr.symm h4⟩
  · intro j hj
    by_cases e : j = k
    · rw [show (fun j => if j = k then wr.heap.size else R j) j = wr.heap.size from if_pos e]
      subst e
      exact ⟨hnew, h6⟩
    · rw [show (fun j => if j = k then wr.heap.size else R j) j = R j from if_neg e]
      have hj' := h5 j (by omega)
      exact ⟨keep (R j) _ (by omega) hj'.1, hj'.2⟩
  · rw [show (W.setCell ⟨wr.heap.size, at_ k % N k, none⟩ (.int .i64 1)).heap.size = W.heap.size by simp [World.setCell]]; exact hsz2
  · exact hbel.setCell (p := ⟨wr.heap.size, _, none⟩) (by show w.heap.size ≤ wr.heap.size; omega) _

set_option maxHeartbeats 1000000 in
set_option maxRecDepth 8000 in
theorem five_calls (w : World) (c : Nat) (at_ : Nat → Nat) (hc : c ≤ 11) (ha : ∀ i, at_ i < 65536) :
    Calls Tryd.prog 5 #[.int .i64 c, .agg #[.int .u16 (at_ 0), .int .u16 (at_ 1), .int .u16 (at_ 2), .int .u16 (at_ 3), .int .u16 (at_ 4)], .bool false] w fun e w' =>
      ∃ R : Nat → Nat, e = .returned (.agg #[.slice (some ⟨R 0, 0, none⟩) (nOf c 0) (nOf c 0), .slice (some ⟨R 1, 0, none⟩) (nOf c 1) (nOf c 1), .slice (some ⟨R 2, 0, none⟩) (nOf c 2) (nOf c 2), .slice (some ⟨R 3, 0, none⟩) (nOf c 3) (nOf c 3), .slice (some ⟨R 4, 0, none⟩) (nOf c 4) (nOf c 4)]) ∧
        (∀ j, j < 5 → w'.heap[R j]? = some (rowI (oneAt (nOf c j) (at_ j % nOf c j)))) ∧ Below w.heap.size w w' := by
  have HA := Lib.hid ha
  have hsz : (Value.agg #[.int .i64 (greensOf c), .int .i64 256, .int .i64 256, .int .i64 256, .int .i64 40]) = .agg #[.int .i64 (nOf c 0 : Nat), .int .i64 (nOf c 1 : Nat), .int .i64 (nOf c 2 : Nat), .int .i64 (nOf c 3 : Nat), .int .i64 (nOf c 4 : Nat)] := by rw [nOf_0]; rfl
  have HZ := Lib.hid hsz
  have HN : Hid (∀ i, 40 ≤ nOf c i ∧ nOf c i ≤ 2328) := fun i => nOf_bound c i hc
  have HC := Lib.hid hc
  clear ha hsz hc
  go_enter Tryd.func5, Tryd.ntmps5
  go_wp2_with (go_at_call 15; refine (rsizes_calls _ _ HC.out).mono ?_; rintro e w1 ⟨rfl, hst⟩; rw [HZ.out]; have Q1 := Lib.hid hst; clear hst)
  have hw1 : w.heap.size + 3 ≤ w1.heap.size := by have := Q1.out.size; simpa [World.size_alloc] using this
  have hb0 : Below w.heap.size w w1 := ((((Below.refl _ w).alloc (Nat.le_refl _) _).alloc (by simp [World.size_alloc]) _).alloc (by simp [World.size_alloc]; omega) _).trans (Q1.out.below.mono (by simp [World.size_alloc]; omega))
  have ha0 := blk_st Q1.out (by simp) (blk_old (blk_old (blk_new w _) _) _)
  have hr0 := blk_st Q1.out (by simp) (blk_old (blk_new (w.alloc _) _) _)
  have hf0 := blk_st Q1.out (by simp) (blk_new ((w.alloc _).alloc _) _)
  rw [World.size_alloc] at hr0
  rw [World.size_alloc, World.size_alloc] at hf0
  have hn1 := blk_new w1 (.cells #[.int .i64 (nOf c 0 : Nat), .int .i64 (nOf c 1 : Nat), .int .i64 (nOf c 2 : Nat), .int .i64 (nOf c 3 : Nat), .int .i64 (nOf c 4 : Nat)] 50)
  have ha1 := blk_old ha0 (.cells #[.int .i64 (nOf c 0 : Nat), .int .i64 (nOf c 1 : Nat), .int .i64 (nOf c 2 : Nat), .int .i64 (nOf c 3 : Nat), .int .i64 (nOf c 4 : Nat)] 50)
  have hr1 := blk_old hr0 (.cells #[.int .i64 (nOf c 0 : Nat), .int .i64 (nOf c 1 : Nat), .int .i64 (nOf c 2 : Nat), .int .i64 (nOf c 3 : Nat), .int .i64 (nOf c 4 : Nat)] 50)
  have hf1 := blk_old hf0 (.cells #[.int .i64 (nOf c 0 : Nat), .int .i64 (nOf c 1 : Nat), .int .i64 (nOf c 2 : Nat), .int .i64 (nOf c 3 : Nat), .int .i64 (nOf c 4 : Nat)] 50)
  have hb1 := hb0.alloc (by omega) (.cells #[.int .i64 (nOf c 0 : Nat), .int .i64 (nOf c 1 : Nat), .int .i64 (nOf c 2 : Nat), .int .i64 (nOf c 3 : Nat), .int .i64 (nOf c 4 : Nat)] 50)
  have hbs : (w1.alloc (.cells #[.int .i64 (nOf c 0 : Nat), .int .i64 (nOf c 1 : Nat), .int .i64 (nOf c 2 : Nat), .int .i64 (nOf c 3 : Nat), .int .i64 (nOf c 4 : Nat)] 50)).heap.size = w1.heap.size + 1 := World.size_alloc _ _
  have hat : ∀ k, k < 5 → #[Value.int .i64 (nOf c 0 : Nat), .int .i64 (nOf c 1 : Nat), .int .i64 (nOf c 2 : Nat), .int .i64 (nOf c 3 : Nat), .int .i64 (nOf c 4 : Nat)][k]? = some (.int .i64 (nOf c k : Nat)) := by
    intro i hi
    have : i = 0 ∨ i = 1 ∨ i = 2 ∨ i = 3 ∨ i = 4 := by omega
    rcases this with rfl | rfl | rfl | rfl | rfl <;> rfl
  have hat2 : ∀ k, k < 5 → #[Value.int .u16 (at_ 0 : Nat), .int .u16 (at_ 1 : Nat), .int .u16 (at_ 2 : Nat), .int .u16 (at_ 3 : Nat), .int .u16 (at_ 4 : Nat)][k]? = some (.int .u16 (at_ k : Nat)) := by
    intro i hi
    have : i = 0 ∨ i = 1 ∨ i = 2 ∨ i = 3 ∨ i = 4 := by omega
    rcases this with rfl | rfl | rfl | rfl | rfl <;> rfl
  have A1 := Lib.hid hat
  have A2 := Lib.hid hat2
  obtain ⟨W0, hW0⟩ : ∃ W0, w1.alloc (.cells #[.int .i64 (nOf c 0 : Nat), .int .i64 (nOf c 1 : Nat), .int .i64 (nOf c 2 : Nat), .int .i64 (nOf c 3 : Nat), .int .i64 (nOf c 4 : Nat)] 50) = W0 := ⟨_, rfl⟩
  rw [hW0] at hn1 ha1 hr1 hf1 hb1 hbs ⊢
  have H1 := Lib.hid hn1
  have H2 := Lib.hid ha1
  have H3 := Lib.hid hr1
  have H4 := Lib.hid hf1
  have H5 := Lib.hid hb1
  have H6 := Lib.hid hbs
  clear hat hat2 hn1 ha1 hr1 hf1 hb1 hbs ha0 hr0 hf0 hb0 hW0 Q1 HZ
  go_loopw [9] (fun i wr => FRel w (w1.heap.size + 1) (w.heap.size + 1 + 1) w1.heap.size w.heap.size (w.heap.size + 1) (nOf c) at_ #[.int .i64 (nOf c 0 : Nat), .int .i64 (nOf c 1 : Nat), .int .i64 (nOf c 2 : Nat), .int .i64 (nOf c 3 : Nat), .int .i64 (nOf c 4 : Nat)]
    #[.int .u16 (at_ 0), .int .u16 (at_ 1), .int .u16 (at_ 2), .int .u16 (at_ 3), .int .u16 (at_ 4)] i wr) (fun i _ => 5 - (intOf i).toNat)
  case atStart => exact ⟨0, fun _ => 0, by omega, rfl, H4.out, H1.out, H2.out, ⟨fun _ => 0, H3.out⟩, fun j hj => absurd hj (by omega), Nat.le_of_eq H6.out.symm, H5.out⟩
  case round =>
    obtain ⟨k, R, hk, rfl, h1, h2, h3, h4, h5, h6, h7⟩ := hrel
    by_cases hlt : k < 5
    · have hmk := run_make_row' (P := Tryd.prog) 25 3 (.int .i64 0) 8 Tryd.underlying25 Tryd.info3 rfl .i64 .i64 (nOf c k) (by have := HN.out k; omega) (by have := HN.out k; omega)
      have c1 := (blk_cell h2 k).trans (A1.out k hlt)
      have c2 := (blk_cell h3 k).trans (A2.out k hlt)
      have c3 := (blk_cell h1 k).trans (fCells_get R (nOf c) k hlt)
      have f3 := blk_free h1 k
      have l1 := blk_lt h1
      have l2 := blk_lt h2
      have l3 := blk_lt h3
      have hak := HA.out k
      have hnk := HN.out k
      have K1 := Lib.hid h1
      have K2 := Lib.hid h2
      have K3 := Lib.hid h3
      have K4 := Lib.hid h4
      have K5 := Lib.hid h5
      have K6 := Lib.hid h6
      have K7 := Lib.hid h7
      clear h1 h2 h3 h4 h5 h6 h7
      go_wp2
      go_quiet (fail)
      have hmod : 0 ≤ (at_ k : Int) % (nOf c k : Int) ∧ (at_ k : Int) % (nOf c k : Int) < (nOf c k : Int) := ⟨Int.emod_nonneg _ (by omega), Int.emod_lt_of_pos _ (by omega)⟩
      have hmn : at_ k % nOf c k < nOf c k := Nat.mod_lt _ (by omega)
      have hcell : (madeCells #[Value.int .i64 0] (nOf c k))[at_ k % nOf c k]? = some (.int .i64 0) := by
        rw [← Array.getElem?_toList, toList_madeCells_one, List.getElem?_replicate, if_pos hmn]
      go_wp2
      case roundEnd =>
        refine ⟨frel_next w wr _ _ _ _ _ (nOf c) at_ _ _ k R hlt (by omega) (by omega) (by omega) (by omega) (by omega) (by omega) (by omega) (by omega) (by omega) K1.out K2.out K3.out K4.out K5.out K6.out K7.out nq, ?_⟩
        show 5 - ((k : Int) + 1).toNat < 5 - (k : Int).toNat
        omega
    · obtain rfl : k = 5 := by omega
      obtain ⟨R0, h4⟩ := h4
      have c0 := (blk_cell h1 0).trans (show (fCells R (nOf c) 5)[0]? = some (.slice (some ⟨R 0, 0, none⟩) (nOf c 0) (nOf c 0)) from rfl)
      have c1 := (blk_cell h1 1).trans (show (fCells R (nOf c) 5)[1]? = some (.slice (some ⟨R 1, 0, none⟩) (nOf c 1) (nOf c 1)) from rfl)
      have c2 := (blk_cell h1 2).trans (show (fCells R (nOf c) 5)[2]? = some (.slice (some ⟨R 2, 0, none⟩) (nOf c 2) (nOf c 2)) from rfl)
      have c3 := (blk_cell h1 3).trans (show (fCells R (nOf c) 5)[3]? = some (.slice (some ⟨R 3, 0, none⟩) (nOf c 3) (nOf c 3)) from rfl)
      have c4 := (blk_cell h1 4).trans (show (fCells R (nOf c) 5)[4]? = some (.slice (some ⟨R 4, 0, none⟩) (nOf c 4) (nOf c 4)) from rfl)
      have d0 := (blk_cell h4 0).trans (show (fCells R0 (nOf c) 0)[0]? = some (.slice none 0 0) from rfl)
      have d1 := (blk_cell h4 1).trans (show (fCells R0 (nOf c) 0)[1]? = some (.slice none 0 0) from rfl)
      have d2 := (blk_cell h4 2).trans (show (fCells R0 (nOf c) 0)[2]? = some (.slice none 0 0) from rfl)
      have d3 := (blk_cell h4 3).trans (show (fCells R0 (nOf c) 0)[3]? = some (.slice none 0 0) from rfl)
      have d4 := (blk_cell h4 4).trans (show (fCells R0 (nOf c) 0)[4]? = some (.slice none 0 0) from rfl)
      have e0 := blk_free h4 0
      have e1 := blk_free h4 1
      have e2 := blk_free h4 2
      have e3 := blk_free h4 3
      have e4 := blk_free h4 4
      have hfin := blk_set (blk_set (blk_set (blk_set (blk_set h4 0 (.slice (some ⟨R 0, 0, none⟩) (nOf c 0) (nOf c 0))) 1 (.slice (some ⟨R 1, 0, none⟩) (nOf c 1) (nOf c 1))) 2 (.slice (some ⟨R 2, 0, none⟩) (nOf c 2) (nOf c 2))) 3 (.slice (some ⟨R 3, 0, none⟩) (nOf c 3) (nOf c 3))) 4 (.slice (some ⟨R 4, 0, none⟩) (nOf c 4) (nOf c 4))
      have K5 := Lib.hid h5
      have K7 := Lib.hid h7
      have K8 := Lib.hid hfin
      clear h1 h2 h3 h4 h5 h6 h7 hfin
      go_wp2
      refine bodyPost_ret (results_cell_row rfl _ _ _ _ (fCells R (nOf c) 5) _ _ rfl K8.out Tryd.underlying27 rfl (by kernel_rfl)) rfl ?_
      refine ⟨R, rfl, fun j hj => ?_, ?_⟩
      · have hj' := K5.out j hj
        rw [blk_other (by show R j ≠ w.heap.size + 1; omega), blk_other (by show R j ≠ w.heap.size + 1; omega), blk_other (by show R j ≠ w.heap.size + 1; omega), blk_other (by show R j ≠ w.heap.size + 1; omega), blk_other (by show R j ≠ w.heap.size + 1; omega)]
        exact hj'.1
      · exact ((((K7.out.setCell (p := ⟨w.heap.size + 1, 0, none⟩) (by simp) _).setCell (p := ⟨w.heap.size + 1, 1, none⟩) (by simp) _).setCell (p := ⟨w.heap.size + 1, 2, none⟩) (by simp) _).setCell (p := ⟨w.heap.size + 1, 3, none⟩) (by simp) _).setCell (p := ⟨w.heap.size + 1, 4, none⟩) (by simp) _
end Go.Proofs.YtdklkecoailekaaDoor
