/- group.Count. -/
import Derived.Test.YtdklkecoailekaaDoorFive
import Derived.Test.YtdklkecoailekaaDoorPCount
set_option linter.unusedVariables false
namespace Go.Proofs.YtdklkecoailekaaDoor
open Go.RowKit Go Go.Shelf Go.Proofs.YtdklkecoailekaaDoorW Mq

/-- The rows of zeros that are made up to the k-th. -/
def NRel (w : World) (B fb rb : Nat) (N : Nat → Nat) (i : Value) (wr : World) : Prop :=
  ∃ (k : Nat) (R : Nat → Nat), k ≤ 5 ∧ i = .int .i64 k ∧ wr.heap[fb]? = some (.cells (fCells R N k) 26 (0, 0)) ∧ (∃ R0 : Nat → Nat, wr.heap[rb]? = some (.cells (fCells R0 N 0) 26 (0, 0))) ∧
    (∀ j, j < k → wr.heap[R j]? = some (rowI (List.replicate (N j) 0)) ∧ B ≤ R j) ∧ (∀ i j, i < k → j < k → R i = R j → i = j) ∧ B ≤ wr.heap.size ∧ Below w.heap.size w wr
theorem nrel_next (w wr : World) (B fb rb : Nat) (N : Nat → Nat) (k : Nat) (R : Nat → Nat) (hk : k < 5) (hfw : w.heap.size ≤ fb) (hf : fb < B) (hr : rb < B) (hfr : fb ≠ rb) (hw : w.heap.size ≤ B)
    (h1 : wr.heap[fb]? = some (.cells (fCells R N k) 26 (0, 0))) (h4 : ∃ R0 : Nat → Nat, wr.heap[rb]? = some (.cells (fCells R0 N 0) 26 (0, 0)))
    (h5 : ∀ j, j < k → wr.heap[R j]? = some (rowI (List.replicate (N j) 0)) ∧ B ≤ R j) (hin : ∀ i j, i < k → j < k → R i = R j → i = j) (h6 : B ≤ wr.heap.size) (h7 : Below w.heap.size w wr) :
    NRel w B fb rb N (.int .i64 ((k : Int) + 1)) ((wr.setCell ⟨fb, k, none⟩ (.slice (some ⟨wr.heap.size, 0, none⟩) (N k) (N k))).alloc (.cells (madeCells #[.int .i64 0] (N k)) 3)) := by
  have hsz : (wr.setCell ⟨fb, k, none⟩ (.slice (some ⟨wr.heap.size, 0, none⟩) (N k) (N k))).heap.size = wr.heap.size := by simp [World.setCell]
  have keep : ∀ (b : Nat) (o : Obj), b ≠ fb → wr.heap[b]? = some o → ((wr.setCell ⟨fb, k, none⟩ (.slice (some ⟨wr.heap.size, 0, none⟩) (N k) (N k))).alloc (.cells (madeCells #[.int .i64 0] (N k)) 3)).heap[b]? = some o := by
    intro b o hbf h
    exact blk_old (w := wr.setCell ⟨fb, k, none⟩ (.slice (some ⟨wr.heap.size, 0, none⟩) (N k) (N k))) (by rw [blk_other hbf]; exact h) _
  have hnew : ((wr.setCell ⟨fb, k, none⟩ (.slice (some ⟨wr.heap.size, 0, none⟩) (N k) (N k))).alloc (.cells (madeCells #[.int .i64 0] (N k)) 3)).heap[wr.heap.size]? = some (rowI (List.replicate (N k) 0)) := by
    have := blk_new (wr.setCell ⟨fb, k, none⟩ (.slice (some ⟨wr.heap.size, 0, none⟩) (N k) (N k))) (.cells (madeCells #[.int .i64 0] (N k)) 3)
    rw [hsz] at this
    rw [this]
    have e : madeCells #[Value.int .i64 0] (N k) = (ints (List.replicate (N k) 0)).toArray := by
      apply Array.ext'
      rw [toList_madeCells_one]
      simp [ints]
    rw [e]
    rfl
  refine ⟨k + 1, fun j => if j = k then wr.heap.size else R j, hk, rfl, ?_, ?_, ?_, ?_, ?_, ?_⟩
  · have := blk_set h1 k (.slice (some ⟨wr.heap.size, 0, none⟩) (N k) (N k))
    rw [fCells_set _ _ _ _ hk] at this
    exact blk_old this _
  · obtain ⟨R0, h4⟩ := h4
    exact ⟨R0, keep rb _ hfr.symm h4⟩
  · intro j hj
    by_cases e : j = k
    · rw [show (fun j => if j = k then wr.heap.size else R j) j = wr.heap.size from if_pos e]
      subst e
      exact ⟨hnew, h6⟩
    · rw [show (fun j => if j = k then wr.heap.size else R j) j = R j from if_neg e]
      have hj' := h5 j (by omega)
      exact ⟨keep (R j) _ (by omega) hj'.1, hj'.2⟩
  · intro i j hi hj he
    simp only at he
    by_cases e1 : i = k
    · by_cases e2 : j = k
      · omega
      · rw [if_pos e1, if_neg e2] at he
        have := blk_lt (h5 j (by omega)).1
        omega
    · by_cases e2 : j = k
      · rw [if_neg e1, if_pos e2] at he
        have := blk_lt (h5 i (by omega)).1
        omega
      · rw [if_neg e1, if_neg e2] at he
        exact hin i j (by omega) (by omega) he
  · exact Nat.le_trans h6 (((St.refl [fb] wr).setCell (p := ⟨fb, k, none⟩) (by simp) _).alloc _).size
  · exact (h7.setCell (p := ⟨fb, k, none⟩) hfw _).alloc (by rw [hsz]; omega) _

/-- A part's cells. -/
def partC (p : Part) : List Value := [.int .i64 p.code, .int .i64 p.sym, .int .i64 p.bits, .int .u32 p.extra]
/-- What group.parts is said to answer of a step. -/
def PartsSaid (ps : Tok → List Part) (width : Int) (t : Tok) : Prop := ∀ W : World, Calls Tryd.prog 22 #[.agg (tokC t), .int .i64 width] W fun e w' =>
  (ps t = [] ∧ e = .returned (.slice none 0 0) ∧ St [] [] W w') ∨
  (ps t ≠ [] ∧ ∃ b, e = .returned (.slice (some ⟨b, 0, none⟩) (ps t).length (ps t).length) ∧ w'.heap[b]? = some (.cells ((ps t).flatMap partC).toArray 69 (0, 0)) ∧ St [] [] W w' ∧ W.heap.size ≤ b)
/-- Counts that stand in the heap. -/
structure CSt (w wr : World) (B fb rb : Nat) (N R : Nat → Nat) (cnt : Nat → List Int) : Prop where
  out : wr.heap[fb]? = some (.cells (fCells R N 5) 26 (0, 0))
  res : ∃ R0 : Nat → Nat, wr.heap[rb]? = some (.cells (fCells R0 N 0) 26 (0, 0))
  row : ∀ j, j < 5 → wr.heap[R j]? = some (rowI (cnt j)) ∧ B ≤ R j
  inj : ∀ i j, i < 5 → j < 5 → R i = R j → i = j
  len : ∀ j, j < 5 → (cnt j).length = N j
  size : B ≤ wr.heap.size
  below : Below w.heap.size w wr

theorem CSt.keep {w wr wr' : World} {B fb rb : Nat} {N R : Nat → Nat} {cnt : Nat → List Int} (h : CSt w wr B fb rb N R cnt) (hw : w.heap.size ≤ B) (k : St [] [] wr wr') : CSt w wr' B fb rb N R cnt := by
  refine ⟨blk_st k (by simp) h.out, ?_, fun j hj => ⟨blk_st k (by simp) (h.row j hj).1, (h.row j hj).2⟩, h.inj, h.len, Nat.le_trans h.size k.size, ?_⟩
  · obtain ⟨R0, h4⟩ := h.res
    exact ⟨R0, blk_st k (by simp) h4⟩
  · exact h.below.trans (k.below.mono (Nat.le_trans hw h.size))
theorem CSt.bump {w wr : World} {B fb rb : Nat} {N R : Nat → Nat} {cnt : Nat → List Int} (h : CSt w wr B fb rb N R cnt) (hw : w.heap.size ≤ B) (hf : fb < B) (hr : rb < B) (c s : Nat) (hc : c < 5) (hs : s < (cnt c).length) :
    CSt w (wr.setCell ⟨R c, s, none⟩ (.int .i64 ((cnt c).getD s 0 + 1))) B fb rb N R (bump cnt c s) := by
  have hB := (h.row c hc).2
  refine ⟨?_, ?_, fun j hj => ⟨?_, (h.row j hj).2⟩, h.inj, fun j hj => by rw [bump_length]; exact h.len j hj, ?_, h.below.setCell (p := ⟨R c, s, none⟩) (Nat.le_trans hw hB) _⟩
  · rw [blk_other (by show fb ≠ R c; omega)]; exact h.out
  · obtain ⟨R0, h4⟩ := h.res
    exact ⟨R0, by rw [blk_other (by show rb ≠ R c; omega)]; exact h4⟩
  · by_cases e : j = c
    · subst e
      have := blk_set (h.row j hj).1 s (.int .i64 ((cnt j).getD s 0 + 1))
      rw [this]
      have e2 : Mq.bump cnt j s j = (cnt j).set s ((cnt j).getD s 0 + 1) := if_pos rfl
      have e3 : (ints (cnt j)).toArray.setIfInBounds s (.int .i64 ((cnt j).getD s 0 + 1)) = (ints ((cnt j).set s ((cnt j).getD s 0 + 1))).toArray := by
        apply Array.ext'
        rw [Array.toList_setIfInBounds]
        simp [ints, List.map_set]
      rw [e2, e3]
      rfl
    · have hne : R j ≠ R c := fun he => e (h.inj j c hj hc he)
      rw [blk_other hne, (h.row j hj).1]
      have e2 : Mq.bump cnt c s j = cnt j := if_neg e
      rw [e2]
  · rw [show (wr.setCell ⟨R c, s, none⟩ (.int .i64 ((cnt c).getD s 0 + 1))).heap.size = wr.heap.size by simp [World.setCell]]
    exact h.size
theorem flat_get {α : Type} (f : α → List Value) (m : Nat) (hm : ∀ x, (f x).length = m) : ∀ (l : List α) (k j : Nat) (t : α), l[k]? = some t → j < m → (l.flatMap f)[m * k + j]? = (f t)[j]?
  | [], k, j, t, h, _ => by simp at h
  | x :: r, 0, j, t, h, hj => by
    simp at h
    subst h
    rw [List.flatMap_cons, Nat.mul_zero, Nat.zero_add, List.getElem?_append_left (by rw [hm]; exact hj)]
  | x :: r, k + 1, j, t, h, hj => by
    rw [List.flatMap_cons, List.getElem?_append_right (by rw [hm, Nat.mul_succ]; omega), hm, show m * (k + 1) + j - m = m * k + j by rw [Nat.mul_succ]; omega]
    exact flat_get f m hm r k j t (by simpa using h) hj

def KRel (w : World) (B fb rb : Nat) (N R : Nat → Nat) (ps : Tok → List Part) (l : List Tok) (res : Option (Nat → List Int)) (i : Value) (wr : World) : Prop :=
  ∃ (k : Nat) (cnt : Nat → List Int), k ≤ l.length ∧ i = .int .i64 k ∧ CSt w wr B fb rb N R cnt ∧ cntIn cnt (4 * k) ∧ countToks ps cnt (l.drop k) = res
theorem tokC_length (t : Tok) : (tokC t).toList.length = 5 := rfl

def CPost (w : World) (c : Nat) (res : Option (Nat → List Int)) (e : Ending) (w' : World) : Prop :=
  match res with
  | none => (∃ R : Nat → Nat, e = .returned (.tuple #[.agg (fCells R (nOf c) 0), .bool false])) ∧ Below w.heap.size w w'
  | some cnt => ∃ R : Nat → Nat, e = .returned (.tuple #[.agg (fCells R (nOf c) 5), .bool true]) ∧ (∀ j, j < 5 → w'.heap[R j]? = some (rowI (cnt j))) ∧ Below w.heap.size w w'

def JRel (w : World) (B fb rb pb : Nat) (N R : Nat → Nat) (pl : List Part) (base : Nat) (rp : Option (Nat → List Int)) (i : Value) (wr : World) : Prop :=
  ∃ (m : Nat) (cnt : Nat → List Int), m ≤ pl.length ∧ i = .int .i64 m ∧ CSt w wr B fb rb N R cnt ∧ cntIn cnt (base + m) ∧ wr.heap[pb]? = some (.cells (pl.flatMap partC).toArray 69 (0, 0)) ∧ countParts cnt (pl.drop m) = rp
theorem fCells_at (R N : Nat → Nat) (k : Nat) (hk : k < 5) : (fCells R N 5)[k]? = some (.slice (some ⟨R k, 0, none⟩) (N k) (N k)) := by
  have : k = 0 ∨ k = 1 ∨ k = 2 ∨ k = 3 ∨ k = 4 := by omega
  rcases this with rfl | rfl | rfl | rfl | rfl <;> rfl

set_option maxHeartbeats 2000000 in
set_option maxRecDepth 8000 in
theorem count_calls (w : World) (c : Nat) (width : Int) (A : Option Addr) (q : Nat) (l : List Tok) (ps : Tok → List Part) (hc : c ≤ 11) (hR : Rd w A (l.flatMap fun t => (tokC t).toList)) (hl : l.length ≤ 2 ^ 40)
    (hps : ∀ t ∈ l, PartsSaid ps width t) (hcode : ∀ t ∈ l, ∀ p ∈ ps t, p.code < 5) (hfour : ∀ t ∈ l, (ps t).length ≤ 4) :
    Calls Tryd.prog 13 #[.slice A l.length q, .int .i64 width, .int .i64 c] w fun e w' =>
CPost w c (countToks ps (fun j => List.replicate (nOf c j) 0) l) e w' := by
  have hl' : l.length ≤ 1099511627776 := hl
  have HN : Hid (∀ i, 40 ≤ nOf c i ∧ nOf c i ≤ 2328) := fun i => nOf_bound c i hc
  have hsz : sizesV c = .agg #[.int .i64 (nOf c 0 : Nat), .int .i64 (nOf c 1 : Nat), .int .i64 (nOf c 2 : Nat), .int .i64 (nOf c 3 : Nat), .int .i64 (nOf c 4 : Nat)] := by
    have : mayC c = true := by unfold mayC; simp; omega
    unfold sizesV; rw [if_pos this, nOf_0]; rfl
  have HZ := Lib.hid hsz
  have HM : Hid (mayC c = true) := by show _ = true; unfold mayC; simp; omega
  have hat : ∀ k, k < 5 → #[Value.int .i64 (nOf c 0 : Nat), .int .i64 (nOf c 1 : Nat), .int .i64 (nOf c 2 : Nat), .int .i64 (nOf c 3 : Nat), .int .i64 (nOf c 4 : Nat)][k]? = some (.int .i64 (nOf c k : Nat)) := by
    intro i hi
    have : i = 0 ∨ i = 1 ∨ i = 2 ∨ i = 3 ∨ i = 4 := by omega
    rcases this with rfl | rfl | rfl | rfl | rfl <;> rfl
  have A1 := Lib.hid hat
  have HR := Lib.hid hR
  have HP := Lib.hid hps
  have HC := Lib.hid hcode
  have H4 := Lib.hid hfour
  clear hat hsz hR hps hcode hfour hl hc
  obtain ⟨res, hres⟩ : ∃ res, countToks ps (fun j => List.replicate (nOf c j) 0) l = res := ⟨_, rfl⟩
  rw [hres]
  have HRES := Lib.hid hres
  clear hres
  go_enter Tryd.func13, Tryd.ntmps13
  go_wp2_with (first
    | (go_at_call 16; refine (may_calls _ _).mono ?_; rintro e w' ⟨rfl, rfl⟩; rw [HM.out])
    | (go_at_call 14; refine (sizes_calls _ _).mono ?_; rintro e w1 ⟨rfl, hst⟩; rw [HZ.out]; have hf0 := blk_st hst (by simp) (blk_new (w.alloc _) _); have hr0 := blk_st hst (by simp) (blk_old (blk_new w _) _); rw [World.size_alloc] at hf0; have hb0 := (((Below.refl _ w).alloc (Nat.le_refl _) _).alloc (by simp [World.size_alloc]) _).trans (hst.below.mono (by simp [World.size_alloc]; omega)); have HF := Lib.hid hf0; have HRr := Lib.hid hr0; have HB := Lib.hid hb0; clear hst hf0 hr0 hb0))
  have hlt1 := blk_lt HF.out
  go_loopw [22] (fun i wr => NRel w w1.heap.size (w.heap.size + 1) w.heap.size (nOf c) i wr) (fun i _ => 5 - (intOf i).toNat)
  case atStart => exact ⟨0, fun _ => 0, by omega, rfl, HF.out, ⟨fun _ => 0, HRr.out⟩, fun j hj => absurd hj (by omega), fun i j hi => absurd hi (by omega), Nat.le_refl _, HB.out⟩
  case round =>
    obtain ⟨k, R, hk, rfl, h1, h4, h5, hin, h6, h7⟩ := hrel
    by_cases hlt : k < 5
    · have hmk := run_make_row' (P := Tryd.prog) 25 3 (.int .i64 0) 8 Tryd.underlying25 Tryd.info3 rfl .i64 .i64 (nOf c k) (by have := HN.out k; omega) (by have := HN.out k; omega)
      have x0 := run_index_one (P := Tryd.prog) (t := 50) (i := (k : Int)) Tryd.underlying50 Tryd.underlying3 rfl (by kernel_rfl) (by omega) (by omega) (A1.out k hlt)
      have c3 := (blk_cell h1 k).trans (fCells_get R (nOf c) k hlt)
      have f3 := blk_free h1 k
      have l1 := blk_lt h1
      have K1 := Lib.hid h1
      have K4 := Lib.hid h4
      have K5 := Lib.hid h5
      have K6 := Lib.hid h6
      have K7 := Lib.hid h7
      have K8 := Lib.hid hin
      clear h1 h4 h5 h6 h7 hin
      go_wp2
      case roundEnd =>
        refine ⟨nrel_next w wr _ _ _ (nOf c) k R hlt (by omega) (by omega) (by omega) (by omega) (by omega) K1.out K4.out K5.out K8.out K6.out K7.out, ?_⟩
        show 5 - ((k : Int) + 1).toNat < 5 - (k : Int).toNat
        omega
    · obtain rfl : k = 5 := by omega
      have hC : CSt w wr w1.heap.size (w.heap.size + 1) w.heap.size (nOf c) R (fun j => List.replicate (nOf c j) 0) := ⟨h1, h4, h5, hin, fun j _ => List.length_replicate, h6, h7⟩
      have K0 := Lib.hid hC
      clear hC h1 h4 h5 h6 h7 hin
      go_wp2
      go_loopw [33] (fun i wr2 => KRel w w1.heap.size (w.heap.size + 1) w.heap.size (nOf c) R ps l res i wr2) (fun i _ => l.length - (intOf i).toNat)
      case atStart => exact ⟨0, _, by omega, rfl, K0.out, fun j x hx => by have := List.eq_of_mem_replicate hx; omega, by rw [List.drop_zero]; exact HRES.out⟩
      case round =>
        obtain ⟨k, cnt, hk, rfl, hC, hin, hrest⟩ := hrel
        by_cases hlt : k < l.length
        · obtain ⟨t, ht⟩ : ∃ t, l[k]? = some t := ⟨_, List.getElem?_eq_getElem hlt⟩
          have htm := List.mem_of_getElem? ht
          have hdrop : l.drop k = t :: l.drop (k + 1) := by rw [List.drop_eq_getElem_cons hlt]; congr 1; exact Option.some.inj ((List.getElem?_eq_getElem hlt).symm.trans ht)
          rw [hdrop] at hrest
          simp only [countToks] at hrest
          obtain ⟨b, o, rfl, hb, hcs⟩ := (HR.out.below hC.below).at_ (by intro e; have := congrArg (fun x => x[5 * k + 0]?) e; simp only [flat_get (fun t : Tok => (tokC t).toList) 5 tokC_length l k 0 t ht (by omega)] at this; simp [tokC] at this)
          have g0 := hcs _ _ ((flat_get (fun t : Tok => (tokC t).toList) 5 tokC_length l k 0 t ht (by omega)).trans (show _ = some (.int .i64 t.kind) from rfl))
          have g1 := hcs _ _ ((flat_get (fun t : Tok => (tokC t).toList) 5 tokC_length l k 1 t ht (by omega)).trans (show _ = some (.int .i64 t.len) from rfl))
          have g2 := hcs _ _ ((flat_get (fun t : Tok => (tokC t).toList) 5 tokC_length l k 2 t ht (by omega)).trans (show _ = some (.int .i64 t.dist) from rfl))
          have g3 := hcs _ _ ((flat_get (fun t : Tok => (tokC t).toList) 5 tokC_length l k 3 t ht (by omega)).trans (show _ = some (.int .i64 t.index) from rfl))
          have g4 := hcs _ _ ((flat_get (fun t : Tok => (tokC t).toList) 5 tokC_length l k 4 t ht (by omega)).trans (show _ = some (.int .u32 t.argb) from rfl))
          rw [show o + (5 * k + 0) = o + k * 5 by omega] at g0
          rw [show o + (5 * k + 1) = o + k * 5 + 1 by omega] at g1
          rw [show o + (5 * k + 2) = o + k * 5 + 2 by omega] at g2
          rw [show o + (5 * k + 3) = o + k * 5 + 3 by omega] at g3
          rw [show o + (5 * k + 4) = o + k * 5 + 4 by omega] at g4
          by_cases hne : ps t = []
          · rw [if_pos (by rw [hne]; rfl)] at hrest
            have M0 := Lib.hid hC
            have M1 := Lib.hid hrest
            have M2 := Lib.hid htm
            have M3 := Lib.hid hne
            clear hC hrest htm hne hdrop hcs ht hin
            have hpar := fun W => HP.out t M2.out W
            unfold tokC at hpar
            have MP := Lib.hid hpar
            clear hpar
            go_wp2_with (go_at_call 22; refine (MP.out _).mono ?_; rintro e w2 hq; obtain ⟨_, rfl, hst⟩ := hq.resolve_right (fun h => h.1 M3.out); have xe := fun W => Lib.run_eql_slice_nil W 66 _ none 0 0 0 0 Tryd.underlying66; simp at xe; have hC2 := M0.out.keep (by omega) (((St.refl [] _).alloc _).trans hst); obtain ⟨R0, hr2⟩ := hC2.res; have d0 := (blk_cell hr2 0).trans (show (fCells R0 (nOf c) 0)[0]? = some (.slice none 0 0) from rfl); have e0 := blk_free hr2 0; have d1 := (blk_cell hr2 1).trans (show (fCells R0 (nOf c) 0)[1]? = some (.slice none 0 0) from rfl); have e1 := blk_free hr2 1; have d2 := (blk_cell hr2 2).trans (show (fCells R0 (nOf c) 0)[2]? = some (.slice none 0 0) from rfl); have e2 := blk_free hr2 2; have d3 := (blk_cell hr2 3).trans (show (fCells R0 (nOf c) 0)[3]? = some (.slice none 0 0) from rfl); have e3 := blk_free hr2 3; have d4 := (blk_cell hr2 4).trans (show (fCells R0 (nOf c) 0)[4]? = some (.slice none 0 0) from rfl); have e4 := blk_free hr2 4; have T1 := Lib.hid hC2; have T2 := Lib.hid hr2; clear hst hC2 hr2)
            have hfin := blk_set (blk_set (blk_set (blk_set (blk_set T2.out 0 (.slice none 0 0)) 1 (.slice none 0 0)) 2 (.slice none 0 0)) 3 (.slice none 0 0)) 4 (.slice none 0 0)
            refine bodyPost_ret (results_ct rfl _ _ w.heap.size _ (fCells R0 (nOf c) 0) _ _ rfl hfin rfl Tryd.underlying26 (by kernel_rfl)) rfl ?_
            rw [← M1.out]
            refine ⟨⟨R0, rfl⟩, ?_⟩
            exact ((((T1.out.below.setCell (p := ⟨w.heap.size, 0, none⟩) (Nat.le_refl _) _).setCell (p := ⟨w.heap.size, 1, none⟩) (Nat.le_refl _) _).setCell (p := ⟨w.heap.size, 2, none⟩) (Nat.le_refl _) _).setCell (p := ⟨w.heap.size, 3, none⟩) (Nat.le_refl _) _).setCell (p := ⟨w.heap.size, 4, none⟩) (Nat.le_refl _) _
          · rw [if_neg (by rw [List.isEmpty_iff]; exact hne)] at hrest
            have M0 := Lib.hid hC
            have M1 := Lib.hid hrest
            have M2 := Lib.hid htm
            have M3 := Lib.hid hne
            have M4 := Lib.hid hin
            clear hC hrest htm hne hdrop hcs ht hin
            have hpar := fun W => HP.out t M2.out W
            unfold tokC at hpar
            have MP := Lib.hid hpar
            clear hpar
            have hn4 := H4.out t M2.out
            go_wp2_with (go_at_call 22; refine (MP.out _).mono ?_; rintro e w2 hq; obtain ⟨_, pb, rfl, hpb, hst, hfr⟩ := hq.resolve_left (fun h => M3.out h.1); have xe := fun W => Lib.run_eql_slice_nil W 66 _ (some ⟨pb, 0, none⟩) (ps t).length (ps t).length 0 0 Tryd.underlying66; simp at xe; have hC2 := M0.out.keep (by omega) (((St.refl [] _).alloc _).trans hst); have T1 := Lib.hid hC2; have T2 := Lib.hid hpb; clear hst hC2 hpb hfr)
            obtain ⟨rp, hrp⟩ : ∃ rp, countParts cnt (ps t) = rp := ⟨_, rfl⟩
            have M5 := Lib.hid hrp
            clear hrp
            go_loopw [45] (fun i wr3 => JRel w w1.heap.size (w.heap.size + 1) w.heap.size pb (nOf c) R (ps t) (4 * k) rp i wr3) (fun i _ => (ps t).length - (intOf i).toNat)
            case atStart => exact ⟨0, cnt, by omega, rfl, T1.out, M4.out, T2.out, by rw [List.drop_zero]; exact M5.out⟩
            case round =>
              obtain ⟨m, cn, hm, rfl, hC, hin, hpb, hrest⟩ := hrel
              by_cases hlm : m < (ps t).length
              · obtain ⟨p, hp⟩ : ∃ p, (ps t)[m]? = some p := ⟨_, List.getElem?_eq_getElem hlm⟩
                have hpm := List.mem_of_getElem? hp
                have hcode := HC.out t M2.out p hpm
                have lp := blk_lt hpb
                have u0 := (blk_cell hpb (4 * m + 0)).trans (((List.getElem?_toArray).trans (flat_get partC 4 (fun _ => rfl) (ps t) m 0 p hp (by omega))).trans (show _ = some (.int .i64 p.code) from rfl))
                have u1 := (blk_cell hpb (4 * m + 1)).trans (((List.getElem?_toArray).trans (flat_get partC 4 (fun _ => rfl) (ps t) m 1 p hp (by omega))).trans (show _ = some (.int .i64 p.sym) from rfl))
                have u2 := (blk_cell hpb (4 * m + 2)).trans (((List.getElem?_toArray).trans (flat_get partC 4 (fun _ => rfl) (ps t) m 2 p hp (by omega))).trans (show _ = some (.int .i64 p.bits) from rfl))
                have u3 := (blk_cell hpb (4 * m + 3)).trans (((List.getElem?_toArray).trans (flat_get partC 4 (fun _ => rfl) (ps t) m 3 p hp (by omega))).trans (show _ = some (.int .u32 p.extra) from rfl))
                rw [show 4 * m + 0 = m * 4 by omega] at u0
                rw [show 4 * m + 1 = m * 4 + 1 by omega] at u1
                rw [show 4 * m + 2 = m * 4 + 2 by omega] at u2
                rw [show 4 * m + 3 = m * 4 + 3 by omega] at u3
                have v0 := (blk_cell hC.out p.code).trans (fCells_at R (nOf c) p.code hcode)
                have lv := blk_lt hC.out
                have J0 := Lib.hid hC
                have J1 := Lib.hid hin
                have J2 := Lib.hid hpb
                have J3 := Lib.hid hrest
                have J4 := Lib.hid hp
                clear hC hin hpb hrest hp
                have hrestp : (ps t).drop m = p :: (ps t).drop (m + 1) := by rw [List.drop_eq_getElem_cons hlm]; congr 1; exact Option.some.inj ((List.getElem?_eq_getElem hlm).symm.trans J4.out)
                have J5 := Lib.hid hrestp
                clear hrestp
                by_cases hsy : p.sym < nOf c p.code
                · have hrw := J0.out.row p.code hcode
                  have hxg := cntIn_get cn _ p.code p.sym J1.out
                  have z0 := (blk_cell hrw.1 p.sym).trans (show (ints (cn p.code)).toArray[p.sym]? = some (.int .i64 ((cn p.code).getD p.sym 0)) from by
                    have : p.sym < (cn p.code).length := by rw [J0.out.len p.code hcode]; exact hsy
                    simp [ints, List.getElem?_eq_getElem this])
                  have z1 := blk_free hrw.1 p.sym
                  have lz := blk_lt hrw.1
                  generalize hxe : (cn p.code).getD p.sym 0 = x at hxg z0
                  have J6 := Lib.hid hxe
                  have J7 := Lib.hid hrw
                  clear hrw hxe
                  go_wp2
                  go_quiet (fail)
                  go_wp2
                  go_region
                  go_wp2
                  case roundEnd =>
                    have hk2 := (J0.out.keep (by omega) (((St.refl [] wr).alloc (.cells #[.int .i64 p.code, .int .i64 p.sym, .int .i64 p.bits, .int .u32 p.extra] 69)).drewN (nq + 1))).bump (by omega) (by omega) (by omega) p.code p.sym hcode (by rw [J0.out.len p.code hcode]; exact hsy)
                    rw [J6.out] at hk2
                    have hr3 := J3.out
                    rw [J5.out] at hr3
                    simp only [countParts] at hr3
                    rw [if_pos (by rw [J0.out.len p.code hcode]; exact hsy)] at hr3
                    have hpr : pb ≠ R p.code := by
                      intro e
                      have h1 := J2.out
                      rw [e, J7.out.1] at h1
                      simp [rowI] at h1
                    refine ⟨⟨m + 1, _, hlm, rfl, hk2, cntIn_bump cn _ _ _ J1.out, ?_, hr3⟩, ?_⟩
                    · rw [blk_other hpr]
                      exact blk_st (((St.refl [] wr).alloc _).drewN _) (by simp) J2.out
                    · show (ps t).length - ((m : Int) + 1).toNat < (ps t).length - (m : Int).toNat
                      omega
                · obtain ⟨R0, hr2⟩ := J0.out.res
                  have d0 := (blk_cell hr2 0).trans (show (fCells R0 (nOf c) 0)[0]? = some (.slice none 0 0) from rfl)
                  have e0 := blk_free hr2 0
                  have d1 := (blk_cell hr2 1).trans (show (fCells R0 (nOf c) 0)[1]? = some (.slice none 0 0) from rfl)
                  have e1 := blk_free hr2 1
                  have d2 := (blk_cell hr2 2).trans (show (fCells R0 (nOf c) 0)[2]? = some (.slice none 0 0) from rfl)
                  have e2 := blk_free hr2 2
                  have d3 := (blk_cell hr2 3).trans (show (fCells R0 (nOf c) 0)[3]? = some (.slice none 0 0) from rfl)
                  have e3 := blk_free hr2 3
                  have d4 := (blk_cell hr2 4).trans (show (fCells R0 (nOf c) 0)[4]? = some (.slice none 0 0) from rfl)
                  have e4 := blk_free hr2 4
                  have lr := blk_lt hr2
                  have J6 := Lib.hid hr2
                  clear hr2
                  go_wp2
                  go_quiet (fail)
                  go_wp2
                  have hk3 := J0.out.keep (by omega) (((St.refl [] wr).alloc (.cells #[.int .i64 p.code, .int .i64 p.sym, .int .i64 p.bits, .int .u32 p.extra] 69)).drewN nq)
                  have hr4 := blk_st (((St.refl [] wr).alloc (.cells #[.int .i64 p.code, .int .i64 p.sym, .int .i64 p.bits, .int .u32 p.extra] 69)).drewN nq) (by simp) J6.out
                  have hfin := blk_set (blk_set (blk_set (blk_set (blk_set hr4 0 (.slice none 0 0)) 1 (.slice none 0 0)) 2 (.slice none 0 0)) 3 (.slice none 0 0)) 4 (.slice none 0 0)
                  refine bodyPost_ret (results_ct rfl _ _ w.heap.size _ (fCells R0 (nOf c) 0) _ _ rfl hfin rfl Tryd.underlying26 (by kernel_rfl)) rfl ?_
                  have hr3 := J3.out
                  rw [J5.out] at hr3
                  simp only [countParts] at hr3
                  rw [if_neg (by rw [J0.out.len p.code hcode]; exact hsy)] at hr3
                  have h1 := M1.out
                  rw [M5.out, ← hr3] at h1
                  rw [← h1]
                  refine ⟨⟨R0, rfl⟩, ?_⟩
                  exact ((((hk3.below.setCell (p := ⟨w.heap.size, 0, none⟩) (Nat.le_refl _) _).setCell (p := ⟨w.heap.size, 1, none⟩) (Nat.le_refl _) _).setCell (p := ⟨w.heap.size, 2, none⟩) (Nat.le_refl _) _).setCell (p := ⟨w.heap.size, 3, none⟩) (Nat.le_refl _) _).setCell (p := ⟨w.heap.size, 4, none⟩) (Nat.le_refl _) _
              · obtain rfl : m = (ps t).length := by omega
                rw [List.drop_length] at hrest
                simp only [countParts] at hrest
                have J0 := Lib.hid hC
                have J1 := Lib.hid hin
                have J3 := Lib.hid hrest
                clear hC hin hpb hrest
                go_wp2
                have h1 := M1.out
                rw [M5.out, ← J3.out] at h1
                have J9 : KRel w w1.heap.size (w.heap.size + 1) w.heap.size (nOf c) R ps l res (.int .i64 ((k : Int) + 1)) wr := ⟨k + 1, cn, hlt, rfl, J0.out, fun j x hx => by have := J1.out j x hx; omega, h1⟩
                go_roundw
                case rel => first | exact J9 | ((repeat apply Exists.intro); exact ⟨J9, rfl⟩)
                case measure => simp [intOf]; omega
        · obtain rfl : k = l.length := by omega
          rw [List.drop_length] at hrest
          simp only [countToks] at hrest
          obtain ⟨R0, hr2⟩ := hC.res
          have c0 := (blk_cell hC.out 0).trans (show (fCells R (nOf c) 5)[0]? = some (.slice (some ⟨R 0, 0, none⟩) (nOf c 0) (nOf c 0)) from rfl)
          have d0 := (blk_cell hr2 0).trans (show (fCells R0 (nOf c) 0)[0]? = some (.slice none 0 0) from rfl)
          have e0 := blk_free hr2 0
          have c1 := (blk_cell hC.out 1).trans (show (fCells R (nOf c) 5)[1]? = some (.slice (some ⟨R 1, 0, none⟩) (nOf c 1) (nOf c 1)) from rfl)
          have d1 := (blk_cell hr2 1).trans (show (fCells R0 (nOf c) 0)[1]? = some (.slice none 0 0) from rfl)
          have e1 := blk_free hr2 1
          have c2 := (blk_cell hC.out 2).trans (show (fCells R (nOf c) 5)[2]? = some (.slice (some ⟨R 2, 0, none⟩) (nOf c 2) (nOf c 2)) from rfl)
          have d2 := (blk_cell hr2 2).trans (show (fCells R0 (nOf c) 0)[2]? = some (.slice none 0 0) from rfl)
          have e2 := blk_free hr2 2
          have c3 := (blk_cell hC.out 3).trans (show (fCells R (nOf c) 5)[3]? = some (.slice (some ⟨R 3, 0, none⟩) (nOf c 3) (nOf c 3)) from rfl)
          have d3 := (blk_cell hr2 3).trans (show (fCells R0 (nOf c) 0)[3]? = some (.slice none 0 0) from rfl)
          have e3 := blk_free hr2 3
          have c4 := (blk_cell hC.out 4).trans (show (fCells R (nOf c) 5)[4]? = some (.slice (some ⟨R 4, 0, none⟩) (nOf c 4) (nOf c 4)) from rfl)
          have d4 := (blk_cell hr2 4).trans (show (fCells R0 (nOf c) 0)[4]? = some (.slice none 0 0) from rfl)
          have e4 := blk_free hr2 4
          have hfin := blk_set (blk_set (blk_set (blk_set (blk_set hr2 0 (.slice (some ⟨R 0, 0, none⟩) (nOf c 0) (nOf c 0))) 1 (.slice (some ⟨R 1, 0, none⟩) (nOf c 1) (nOf c 1))) 2 (.slice (some ⟨R 2, 0, none⟩) (nOf c 2) (nOf c 2))) 3 (.slice (some ⟨R 3, 0, none⟩) (nOf c 3) (nOf c 3))) 4 (.slice (some ⟨R 4, 0, none⟩) (nOf c 4) (nOf c 4))
          have M0 := Lib.hid hC
          have M1 := Lib.hid hrest
          have M2 := Lib.hid hfin
          clear hC hrest hfin hr2 hin
          go_wp2
          refine bodyPost_ret (results_ct rfl _ _ w.heap.size _ (fCells R (nOf c) 5) _ _ rfl M2.out rfl Tryd.underlying26 (by kernel_rfl)) rfl ?_
          rw [← M1.out]
          refine ⟨R, rfl, fun j hj => ?_, ?_⟩
          · have hj' := M0.out.row j hj
            rw [blk_other (by show R j ≠ w.heap.size; omega), blk_other (by show R j ≠ w.heap.size; omega), blk_other (by show R j ≠ w.heap.size; omega), blk_other (by show R j ≠ w.heap.size; omega), blk_other (by show R j ≠ w.heap.size; omega)]
            exact hj'.1
          · exact ((((M0.out.below.setCell (p := ⟨w.heap.size, 0, none⟩) (Nat.le_refl _) _).setCell (p := ⟨w.heap.size, 1, none⟩) (Nat.le_refl _) _).setCell (p := ⟨w.heap.size, 2, none⟩) (Nat.le_refl _) _).setCell (p := ⟨w.heap.size, 3, none⟩) (Nat.le_refl _) _).setCell (p := ⟨w.heap.size, 4, none⟩) (Nat.le_refl _) _
end Go.Proofs.YtdklkecoailekaaDoor
