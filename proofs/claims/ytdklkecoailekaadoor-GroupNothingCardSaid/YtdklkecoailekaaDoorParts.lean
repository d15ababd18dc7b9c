/- group.parts of a literal, Tell of a group with one symbol a code. -/
import Derived.Test.YtdklkecoailekaaDoorLit
import Derived.Test.YtdklkecoailekaaDoorBit2
import Derived.WalkSpells
set_option linter.unusedVariables false
namespace Go.Proofs.YtdklkecoailekaaDoor
open Go.RowKit Go Go.Shelf Go.Proofs.YtdklkecoailekaaDoorW Mq

/-- The parts of a literal. -/
def litC (argb : Nat) : Array Value := #[.int .i64 0, .int .i64 (argb / 256 % 256 : Nat), .int .i64 0, .int .u32 0, .int .i64 1, .int .i64 (argb / 65536 % 256 : Nat), .int .i64 0, .int .u32 0,
  .int .i64 2, .int .i64 (argb % 256 : Nat), .int .i64 0, .int .u32 0, .int .i64 3, .int .i64 (argb / 16777216 : Nat), .int .i64 0, .int .u32 0]

set_option maxHeartbeats 1000000 in
theorem parts_lit (w : World) (t : Tok) (width : Int) (hk : t.kind = 1) (hw : wideC width = true) (ha : t.argb < 4294967296) :
    Calls Tryd.prog 22 #[.agg (tokC t), .int .i64 width] w fun e w' => ∃ b, e = .returned (.slice (some ⟨b, 0, none⟩) 4 4) ∧ w'.heap[b]? = some (.cells (litC t.argb) 69 (0, 0)) ∧ St [] [] w w' ∧ w.heap.size ≤ b := by
  obtain ⟨k, n, d, i, argb⟩ := t
  subst hk
  have ha' : argb < 4294967296 := ha
  clear ha
  have HW := Lib.hid hw
  clear hw
  unfold tokC
  go_enter Tryd.func22, Tryd.ntmps22
  go_wp2_with (first
    | (go_at_call 18; refine (wide_calls _ _).mono ?_; rintro e w' ⟨rfl, rfl⟩; rw [HW.out])
    | (go_at_call 35; refine (pixparts_calls _ argb ha').mono ?_; rintro e w' ⟨rfl, rfl⟩))
  go_ret
  have hn := blk_new (w.alloc (.cells #[.int .i64 1, .int .i64 n, .int .i64 d, .int .i64 i, .int .u32 argb] 39)) (.cells (litC argb) 69)
  rw [World.size_alloc] at hn
  exact ⟨w.heap.size + 1, rfl, hn, ((St.refl [] w).alloc _).alloc _, by omega⟩

theorem wbits_zero (w : World) (p : Nat) (cs : Array Value) (fr : Nat × Nat) (h : w.heap[p]? = some (.cells cs 65 fr)) :
    Calls Tryd.prog 25 #[.pointer (some ⟨p, 0, none⟩), .int .u32 0, .int .i64 0] w fun e w' => e = .returned (.bool true) ∧ w = w' := by
  go_enter Tryd.func25, Tryd.ntmps25
  go_wp2
  refine wp_loop_rounds 1 ?_
  rw [rounds_succ]
  go_wp2
  go_ret
  exact ⟨rfl, rfl⟩
theorem twrite_zero (w : World) (t p : Nat) (F : List Nat) (l : List Int) (s : Int) (h : IsT w t F l) (hc : costOf l s = 0) :
    Calls Tryd.prog 24 #[.pointer (some ⟨t, 0, none⟩), .pointer (some ⟨p, 0, none⟩), .int .i64 s] w fun e w' => e = .returned (.bool true) ∧ w' = w := by
  have HT := Lib.hid h
  have HC := Lib.hid hc
  clear h hc
  go_enter Tryd.func24, Tryd.ntmps24
  go_wp2_with (go_at_call 23; refine (cost_calls _ _ _ _ s HT.out).mono ?_; rintro e w' ⟨rfl, rfl⟩; rw [HC.out, show max (0 : Int) 0 = 0 from rfl, show decide ((0 : Int) ≤ 0) = true from rfl])
  refine wp_loop_rounds 1 ?_
  rw [rounds_succ]
  go_wp2
  go_ret
  exact ⟨rfl, rfl⟩

theorem cost_zero (w : World) (t : Nat) (F : List Nat) (l : List Int) (s : Int) (h : IsT w t F l) (hc : costOf l s = 0) :
    Calls Tryd.prog 23 #[.pointer (some ⟨t, 0, none⟩), .int .i64 s] w fun e w' => e = .returned (.tuple #[.int .i64 0, .bool true]) ∧ w' = w := by
  refine (cost_calls _ _ _ _ s h).mono ?_
  rintro e w' ⟨rfl, rfl⟩
  rw [hc]
  exact ⟨rfl, rfl⟩
theorem cost_none (w : World) (t : Nat) (F : List Nat) (l : List Int) (s : Int) (h : IsT w t F l) (hc : costOf l s = -1) :
    Calls Tryd.prog 23 #[.pointer (some ⟨t, 0, none⟩), .int .i64 s] w fun e w' => e = .returned (.tuple #[.int .i64 0, .bool false]) ∧ w' = w := by
  refine (cost_calls _ _ _ _ s h).mono ?_
  rintro e w' ⟨rfl, rfl⟩
  rw [hc]
  exact ⟨rfl, rfl⟩

/-- What a group tells of a literal without bits. -/
def lit0 (ls : Nat → List Int) (argb : Nat) : Prop := costOf (ls 0) (argb / 256 % 256 : Nat) = 0 ∧ costOf (ls 1) (argb / 65536 % 256 : Nat) = 0 ∧ costOf (ls 2) (argb % 256 : Nat) = 0 ∧ costOf (ls 3) (argb / 16777216 : Nat) = 0

/-- .. where the blue has no code. -/
def litB (ls : Nat → List Int) (argb : Nat) : Prop := costOf (ls 0) (argb / 256 % 256 : Nat) = 0 ∧ costOf (ls 1) (argb / 65536 % 256 : Nat) = 0 ∧ costOf (ls 2) (argb % 256 : Nat) = -1 ∧ costOf (ls 3) (argb / 16777216 : Nat) = 0

set_option maxHeartbeats 2000000 in
set_option maxRecDepth 8000 in
theorem tell_no (w : World) (g p : Nat) (t : Tok) (width : Int) (F : List Nat) (ls : Nat → List Int) (cs : Array Value) (fr : Nat × Nat) (h : IsG w g F ls) (hp : w.heap[p]? = some (.cells cs 65 fr))
    (hk : t.kind = 1) (hw : wideC width = true) (ha : t.argb < 4294967296) (hl : litB ls t.argb) :
    Calls Tryd.prog 11 #[.pointer (some ⟨g, 0, none⟩), .pointer (some ⟨p, 0, none⟩), .agg (tokC t), .int .i64 width] w fun e w' => e = .returned (.bool false) ∧ St [] [] w w' := by
  obtain ⟨tt, Ft, hg, hT, hF, hgF⟩ := h
  obtain ⟨k, n, d, i, argb⟩ := t
  subst hk
  have HW := Lib.hid hw
  have HA := Lib.hid ha
  have HL := Lib.hid hl
  have HG := Lib.hid hg
  have HT := Lib.hid hT
  have HP := Lib.hid hp
  clear hw ha hl hg hT hp hF hgF
  unfold tokC
  go_enter Tryd.func11, Tryd.ntmps11
  go_wp2_with (first
    | (go_at_call 22; refine (parts_lit _ ⟨1, n, d, i, argb⟩ width rfl HW.out HA.out).mono ?_; rintro e w1 ⟨b, rfl, hb, hst, hfr⟩; have xe := fun W => Lib.run_eql_slice_nil W 66 _ (some ⟨b, 0, none⟩) 4 4 0 0 Tryd.underlying66; simp at xe; have Q1 := Lib.hid hb; have Q2 := Lib.hid hst; clear hb hst hfr))
  have hS1 : St [] [] w w1 := ((St.refl [] w).alloc _).trans Q2.out
  have S1 := Lib.hid hS1
  clear hS1
  go_loopw [31] (fun i wr => ∃ k : Nat, k ≤ 2 ∧ i = .int .i64 k ∧ St [] [] w1 wr) (fun i _ => 4 - (intOf i).toNat)
  case atStart => exact ⟨0, by omega, rfl, St.refl _ _⟩
  case round =>
    obtain ⟨k, hk, rfl, hS⟩ := hrel
    have hb' := blk_st hS (by simp) Q1.out
    have hg' := blk_st (S1.out.trans hS) (by simp) HG.out
    have lb := blk_lt hb'
    have lg := blk_lt hg'
    have K := Lib.hid hS
    have KB := Lib.hid hb'
    have KG := Lib.hid hg'
    clear hS hb' hg'
    have hkk : k = 0 ∨ k = 1 ∨ k = 2 := by omega
    rcases hkk with rfl | rfl | rfl
    · skip
      have c0 := (blk_cell KB.out 0).trans (show (litC argb)[0]? = some (.int .i64 0) from rfl)
      have c1 := (blk_cell KB.out 1).trans (show (litC argb)[1]? = some (.int .i64 (argb / 256 % 256 : Nat)) from rfl)
      have c2 := (blk_cell KB.out 2).trans (show (litC argb)[2]? = some (.int .i64 0) from rfl)
      have c3 := (blk_cell KB.out 3).trans (show (litC argb)[3]? = some (.int .u32 0) from rfl)
      have d0 := (blk_cell KG.out 0).trans (gCells_at tt 0 (by omega))
      obtain ⟨s, hs⟩ : ∃ s : Nat, argb / 256 % 256 = s := ⟨_, rfl⟩
      rw [hs] at c1
      have hc := HL.out.1
      rw [hs] at hc
      have HC := Lib.hid hc
      clear hc hs hk
      go_wp2
      go_quiet ((go_at_call 23; exact Calls.quiet_of_same (cost_zero _ _ _ _ s ((HT.out 0 (by omega)).keep (((S1.out.trans K.out).alloc _).drewN _) (by simp)) HC.out)))
      go_wp2
      case roundEnd => exact ⟨⟨1, by omega, rfl, (K.out.alloc _).drewN _⟩, by decide⟩
    · skip
      have c0 := (blk_cell KB.out 4).trans (show (litC argb)[4]? = some (.int .i64 1) from rfl)
      have c1 := (blk_cell KB.out 5).trans (show (litC argb)[5]? = some (.int .i64 (argb / 65536 % 256 : Nat)) from rfl)
      have c2 := (blk_cell KB.out 6).trans (show (litC argb)[6]? = some (.int .i64 0) from rfl)
      have c3 := (blk_cell KB.out 7).trans (show (litC argb)[7]? = some (.int .u32 0) from rfl)
      have d0 := (blk_cell KG.out 1).trans (gCells_at tt 1 (by omega))
      obtain ⟨s, hs⟩ : ∃ s : Nat, argb / 65536 % 256 = s := ⟨_, rfl⟩
      rw [hs] at c1
      have hc := HL.out.2.1
      rw [hs] at hc
      have HC := Lib.hid hc
      clear hc hs hk
      go_wp2
      go_quiet ((go_at_call 23; exact Calls.quiet_of_same (cost_zero _ _ _ _ s ((HT.out 1 (by omega)).keep (((S1.out.trans K.out).alloc _).drewN _) (by simp)) HC.out)))
      go_wp2
      case roundEnd => exact ⟨⟨2, by omega, rfl, (K.out.alloc _).drewN _⟩, by decide⟩
    · skip
      have c0 := (blk_cell KB.out 8).trans (show (litC argb)[8]? = some (.int .i64 2) from rfl)
      have c1 := (blk_cell KB.out 9).trans (show (litC argb)[9]? = some (.int .i64 (argb % 256 : Nat)) from rfl)
      have c2 := (blk_cell KB.out 10).trans (show (litC argb)[10]? = some (.int .i64 0) from rfl)
      have c3 := (blk_cell KB.out 11).trans (show (litC argb)[11]? = some (.int .u32 0) from rfl)
      have d0 := (blk_cell KG.out 2).trans (gCells_at tt 2 (by omega))
      obtain ⟨s, hs⟩ : ∃ s : Nat, argb % 256 = s := ⟨_, rfl⟩
      rw [hs] at c1
      have hc := HL.out.2.2.1
      rw [hs] at hc
      have HC := Lib.hid hc
      clear hc hs hk
      go_wp2
      go_quiet ((go_at_call 23; exact Calls.quiet_of_same (cost_none _ _ _ _ s ((HT.out 2 (by omega)).keep (((S1.out.trans K.out).alloc _).drewN _) (by simp)) HC.out)))
      go_wp2
      go_ret
      exact ⟨rfl, ((S1.out.trans K.out).alloc _).drewN _⟩
set_option maxHeartbeats 2000000 in
set_option maxRecDepth 8000 in
theorem tell_yes (w : World) (g p : Nat) (t : Tok) (width : Int) (F : List Nat) (ls : Nat → List Int) (cs : Array Value) (fr : Nat × Nat) (h : IsG w g F ls) (hp : w.heap[p]? = some (.cells cs 65 fr))
    (hk : t.kind = 1) (hw : wideC width = true) (ha : t.argb < 4294967296) (hl : lit0 ls t.argb) :
    Calls Tryd.prog 11 #[.pointer (some ⟨g, 0, none⟩), .pointer (some ⟨p, 0, none⟩), .agg (tokC t), .int .i64 width] w fun e w' => e = .returned (.bool true) ∧ St [] [] w w' := by
  obtain ⟨tt, Ft, hg, hT, hF, hgF⟩ := h
  obtain ⟨k, n, d, i, argb⟩ := t
  subst hk
  have HW := Lib.hid hw
  have HA := Lib.hid ha
  have HL := Lib.hid hl
  have HG := Lib.hid hg
  have HT := Lib.hid hT
  have HP := Lib.hid hp
  clear hw ha hl hg hT hp hF hgF
  unfold tokC
  go_enter Tryd.func11, Tryd.ntmps11
  go_wp2_with (first
    | (go_at_call 22; refine (parts_lit _ ⟨1, n, d, i, argb⟩ width rfl HW.out HA.out).mono ?_; rintro e w1 ⟨b, rfl, hb, hst, hfr⟩; have xe := fun W => Lib.run_eql_slice_nil W 66 _ (some ⟨b, 0, none⟩) 4 4 0 0 Tryd.underlying66; simp at xe; have Q1 := Lib.hid hb; have Q2 := Lib.hid hst; clear hb hst hfr))
  have hS1 : St [] [] w w1 := ((St.refl [] w).alloc _).trans Q2.out
  have S1 := Lib.hid hS1
  clear hS1
  go_loopw [31] (fun i wr => ∃ k : Nat, k ≤ 4 ∧ i = .int .i64 k ∧ St [] [] w1 wr) (fun i _ => 4 - (intOf i).toNat)
  case atStart => exact ⟨0, by omega, rfl, St.refl _ _⟩
  case round =>
    obtain ⟨k, hk, rfl, hS⟩ := hrel
    have hb' := blk_st hS (by simp) Q1.out
    have hg' := blk_st (S1.out.trans hS) (by simp) HG.out
    have lb := blk_lt hb'
    have lg := blk_lt hg'
    have K := Lib.hid hS
    have KB := Lib.hid hb'
    have KG := Lib.hid hg'
    clear hS hb' hg'
    have hkk : k = 0 ∨ k = 1 ∨ k = 2 ∨ k = 3 ∨ k = 4 := by omega
    rcases hkk with rfl | rfl | rfl | rfl | rfl
    · skip
      have c0 := (blk_cell KB.out 0).trans (show (litC argb)[0]? = some (.int .i64 0) from rfl)
      have c1 := (blk_cell KB.out 1).trans (show (litC argb)[1]? = some (.int .i64 (argb / 256 % 256 : Nat)) from rfl)
      have c2 := (blk_cell KB.out 2).trans (show (litC argb)[2]? = some (.int .i64 0) from rfl)
      have c3 := (blk_cell KB.out 3).trans (show (litC argb)[3]? = some (.int .u32 0) from rfl)
      have d0 := (blk_cell KG.out 0).trans (gCells_at tt 0 (by omega))
      obtain ⟨s, hs⟩ : ∃ s : Nat, argb / 256 % 256 = s := ⟨_, rfl⟩
      rw [hs] at c1
      have hc := HL.out.1
      rw [hs] at hc
      have HC := Lib.hid hc
      clear hc hs hk
      go_wp2
      go_quiet ((go_at_call 23; exact Calls.quiet_of_same (cost_zero _ _ _ _ s ((HT.out 0 (by omega)).keep (((S1.out.trans K.out).alloc _).drewN _) (by simp)) HC.out)))
      go_wp2
      case roundEnd => exact ⟨⟨1, by omega, rfl, (K.out.alloc _).drewN _⟩, by decide⟩
    · skip
      have c0 := (blk_cell KB.out 4).trans (show (litC argb)[4]? = some (.int .i64 1) from rfl)
      have c1 := (blk_cell KB.out 5).trans (show (litC argb)[5]? = some (.int .i64 (argb / 65536 % 256 : Nat)) from rfl)
      have c2 := (blk_cell KB.out 6).trans (show (litC argb)[6]? = some (.int .i64 0) from rfl)
      have c3 := (blk_cell KB.out 7).trans (show (litC argb)[7]? = some (.int .u32 0) from rfl)
      have d0 := (blk_cell KG.out 1).trans (gCells_at tt 1 (by omega))
      obtain ⟨s, hs⟩ : ∃ s : Nat, argb / 65536 % 256 = s := ⟨_, rfl⟩
      rw [hs] at c1
      have hc := HL.out.2.1
      rw [hs] at hc
      have HC := Lib.hid hc
      clear hc hs hk
      go_wp2
      go_quiet ((go_at_call 23; exact Calls.quiet_of_same (cost_zero _ _ _ _ s ((HT.out 1 (by omega)).keep (((S1.out.trans K.out).alloc _).drewN _) (by simp)) HC.out)))
      go_wp2
      case roundEnd => exact ⟨⟨2, by omega, rfl, (K.out.alloc _).drewN _⟩, by decide⟩
    · skip
      have c0 := (blk_cell KB.out 8).trans (show (litC argb)[8]? = some (.int .i64 2) from rfl)
      have c1 := (blk_cell KB.out 9).trans (show (litC argb)[9]? = some (.int .i64 (argb % 256 : Nat)) from rfl)
      have c2 := (blk_cell KB.out 10).trans (show (litC argb)[10]? = some (.int .i64 0) from rfl)
      have c3 := (blk_cell KB.out 11).trans (show (litC argb)[11]? = some (.int .u32 0) from rfl)
      have d0 := (blk_cell KG.out 2).trans (gCells_at tt 2 (by omega))
      obtain ⟨s, hs⟩ : ∃ s : Nat, argb % 256 = s := ⟨_, rfl⟩
      rw [hs] at c1
      have hc := HL.out.2.2.1
      rw [hs] at hc
      have HC := Lib.hid hc
      clear hc hs hk
      go_wp2
      go_quiet ((go_at_call 23; exact Calls.quiet_of_same (cost_zero _ _ _ _ s ((HT.out 2 (by omega)).keep (((S1.out.trans K.out).alloc _).drewN _) (by simp)) HC.out)))
      go_wp2
      case roundEnd => exact ⟨⟨3, by omega, rfl, (K.out.alloc _).drewN _⟩, by decide⟩
    · skip
      have c0 := (blk_cell KB.out 12).trans (show (litC argb)[12]? = some (.int .i64 3) from rfl)
      have c1 := (blk_cell KB.out 13).trans (show (litC argb)[13]? = some (.int .i64 (argb / 16777216 : Nat)) from rfl)
      have c2 := (blk_cell KB.out 14).trans (show (litC argb)[14]? = some (.int .i64 0) from rfl)
      have c3 := (blk_cell KB.out 15).trans (show (litC argb)[15]? = some (.int .u32 0) from rfl)
      have d0 := (blk_cell KG.out 3).trans (gCells_at tt 3 (by omega))
      obtain ⟨s, hs⟩ : ∃ s : Nat, argb / 16777216 = s := ⟨_, rfl⟩
      rw [hs] at c1
      have hc := HL.out.2.2.2
      rw [hs] at hc
      have HC := Lib.hid hc
      clear hc hs hk
      go_wp2
      go_quiet ((go_at_call 23; exact Calls.quiet_of_same (cost_zero _ _ _ _ s ((HT.out 3 (by omega)).keep (((S1.out.trans K.out).alloc _).drewN _) (by simp)) HC.out)))
      go_wp2
      case roundEnd => exact ⟨⟨4, by omega, rfl, (K.out.alloc _).drewN _⟩, by decide⟩
    · go_wp2
      have hS2 := S1.out.trans K.out
      have S2 := Lib.hid hS2
      clear hS2
      go_loopw [53] (fun i wr2 => ∃ k : Nat, k ≤ 4 ∧ i = .int .i64 k ∧ St [] [] wr wr2) (fun i _ => 4 - (intOf i).toNat)
      case atStart => exact ⟨0, by omega, rfl, St.refl _ _⟩
      case round =>
        obtain ⟨k, hk, rfl, hS⟩ := hrel
        have hb' := blk_st hS (by simp) KB.out
        have hg' := blk_st hS (by simp) KG.out
        have lb := blk_lt hb'
        have lg := blk_lt hg'
        have M := Lib.hid hS
        have MB := Lib.hid hb'
        have MG := Lib.hid hg'
        clear hS hb' hg'
        have hkk : k = 0 ∨ k = 1 ∨ k = 2 ∨ k = 3 ∨ k = 4 := by omega
        rcases hkk with rfl | rfl | rfl | rfl | rfl
        · skip
          have c0 := (blk_cell MB.out 0).trans (show (litC argb)[0]? = some (.int .i64 0) from rfl)
          have c1 := (blk_cell MB.out 1).trans (show (litC argb)[1]? = some (.int .i64 (argb / 256 % 256 : Nat)) from rfl)
          have c2 := (blk_cell MB.out 2).trans (show (litC argb)[2]? = some (.int .i64 0) from rfl)
          have c3 := (blk_cell MB.out 3).trans (show (litC argb)[3]? = some (.int .u32 0) from rfl)
          have d0 := (blk_cell MG.out 0).trans (gCells_at tt 0 (by omega))
          obtain ⟨s, hs⟩ : ∃ s : Nat, argb / 256 % 256 = s := ⟨_, rfl⟩
          rw [hs] at c1
          have hc := HL.out.1
          rw [hs] at hc
          have HC := Lib.hid hc
          clear hc hs hk
          go_wp2
          go_quiet ((go_at_call 24; exact Calls.quiet_of_same (twrite_zero _ _ _ _ _ s ((HT.out 0 (by omega)).keep (((S2.out.trans M.out).alloc _).drewN _) (by simp)) HC.out)))
          go_wp2_with (go_at_call 25; refine (wbits_zero _ _ _ _ (blk_st (((S2.out.trans M.out).alloc _).drewN _) (by simp) HP.out)).mono ?_; rintro e w' ⟨rfl, rfl⟩)
          go_roundw
          case rel => ((repeat apply Exists.intro); exact ⟨⟨1, by omega, rfl, (M.out.alloc _).drewN _⟩, rfl⟩)
          case measure => simp [intOf]
        · skip
          have c0 := (blk_cell MB.out 4).trans (show (litC argb)[4]? = some (.int .i64 1) from rfl)
          have c1 := (blk_cell MB.out 5).trans (show (litC argb)[5]? = some (.int .i64 (argb / 65536 % 256 : Nat)) from rfl)
          have c2 := (blk_cell MB.out 6).trans (show (litC argb)[6]? = some (.int .i64 0) from rfl)
          have c3 := (blk_cell MB.out 7).trans (show (litC argb)[7]? = some (.int .u32 0) from rfl)
          have d0 := (blk_cell MG.out 1).trans (gCells_at tt 1 (by omega))
          obtain ⟨s, hs⟩ : ∃ s : Nat, argb / 65536 % 256 = s := ⟨_, rfl⟩
          rw [hs] at c1
          have hc := HL.out.2.1
          rw [hs] at hc
          have HC := Lib.hid hc
          clear hc hs hk
          go_wp2
          go_quiet ((go_at_call 24; exact Calls.quiet_of_same (twrite_zero _ _ _ _ _ s ((HT.out 1 (by omega)).keep (((S2.out.trans M.out).alloc _).drewN _) (by simp)) HC.out)))
          go_wp2_with (go_at_call 25; refine (wbits_zero _ _ _ _ (blk_st (((S2.out.trans M.out).alloc _).drewN _) (by simp) HP.out)).mono ?_; rintro e w' ⟨rfl, rfl⟩)
          go_roundw
          case rel => ((repeat apply Exists.intro); exact ⟨⟨2, by omega, rfl, (M.out.alloc _).drewN _⟩, rfl⟩)
          case measure => simp [intOf]
        · skip
          have c0 := (blk_cell MB.out 8).trans (show (litC argb)[8]? = some (.int .i64 2) from rfl)
          have c1 := (blk_cell MB.out 9).trans (show (litC argb)[9]? = some (.int .i64 (argb % 256 : Nat)) from rfl)
          have c2 := (blk_cell MB.out 10).trans (show (litC argb)[10]? = some (.int .i64 0) from rfl)
          have c3 := (blk_cell MB.out 11).trans (show (litC argb)[11]? = some (.int .u32 0) from rfl)
          have d0 := (blk_cell MG.out 2).trans (gCells_at tt 2 (by omega))
          obtain ⟨s, hs⟩ : ∃ s : Nat, argb % 256 = s := ⟨_, rfl⟩
          rw [hs] at c1
          have hc := HL.out.2.2.1
          rw [hs] at hc
          have HC := Lib.hid hc
          clear hc hs hk
          go_wp2
          go_quiet ((go_at_call 24; exact Calls.quiet_of_same (twrite_zero _ _ _ _ _ s ((HT.out 2 (by omega)).keep (((S2.out.trans M.out).alloc _).drewN _) (by simp)) HC.out)))
          go_wp2_with (go_at_call 25; refine (wbits_zero _ _ _ _ (blk_st (((S2.out.trans M.out).alloc _).drewN _) (by simp) HP.out)).mono ?_; rintro e w' ⟨rfl, rfl⟩)
          go_roundw
          case rel => ((repeat apply Exists.intro); exact ⟨⟨3, by omega, rfl, (M.out.alloc _).drewN _⟩, rfl⟩)
          case measure => simp [intOf]
        · skip
          have c0 := (blk_cell MB.out 12).trans (show (litC argb)[12]? = some (.int .i64 3) from rfl)
          have c1 := (blk_cell MB.out 13).trans (show (litC argb)[13]? = some (.int .i64 (argb / 16777216 : Nat)) from rfl)
          have c2 := (blk_cell MB.out 14).trans (show (litC argb)[14]? = some (.int .i64 0) from rfl)
          have c3 := (blk_cell MB.out 15).trans (show (litC argb)[15]? = some (.int .u32 0) from rfl)
          have d0 := (blk_cell MG.out 3).trans (gCells_at tt 3 (by omega))
          obtain ⟨s, hs⟩ : ∃ s : Nat, argb / 16777216 = s := ⟨_, rfl⟩
          rw [hs] at c1
          have hc := HL.out.2.2.2
          rw [hs] at hc
          have HC := Lib.hid hc
          clear hc hs hk
          go_wp2
          go_quiet ((go_at_call 24; exact Calls.quiet_of_same (twrite_zero _ _ _ _ _ s ((HT.out 3 (by omega)).keep (((S2.out.trans M.out).alloc _).drewN _) (by simp)) HC.out)))
          go_wp2_with (go_at_call 25; refine (wbits_zero _ _ _ _ (blk_st (((S2.out.trans M.out).alloc _).drewN _) (by simp) HP.out)).mono ?_; rintro e w' ⟨rfl, rfl⟩)
          go_roundw
          case rel => ((repeat apply Exists.intro); exact ⟨⟨4, by omega, rfl, (M.out.alloc _).drewN _⟩, rfl⟩)
          case measure => simp [intOf]
        · go_wp2
          go_ret
          exact ⟨rfl, S2.out.trans M.out⟩
end Go.Proofs.YtdklkecoailekaaDoor
