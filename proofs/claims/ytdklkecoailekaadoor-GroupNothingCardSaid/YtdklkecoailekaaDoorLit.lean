/- Group.literal. -/
import Derived.Test.YtdklkecoailekaaDoorPixel
import Derived.Test.YtdklkecoailekaaDoorPGroup
set_option linter.unusedVariables false
namespace Go.Proofs.YtdklkecoailekaaDoor
open Go.RowKit Go Go.Shelf Go.Proofs.YtdklkecoailekaaDoorW Mq

def tokC (t : Tok) : Array Value := #[.int .i64 t.kind, .int .i64 t.len, .int .i64 t.dist, .int .i64 t.index, .int .u32 t.argb]
/-- What a reader is behind a call that tells a step. -/
def TPost (w : World) (p : Nat) (G : List Nat) (r : Except Nat (Tok × List Bool)) (e : Ending) (w' : World) : Prop :=
  St [p] [p] w w' ∧ match r with
    | .ok (s, rest') => e = .returned (.tuple #[.agg (tokC s), .int .i64 0]) ∧ IsR w' p G rest' false
    | .error er => e = .returned (.tuple #[.agg (tokC tok0), .int .i64 (er : Nat)]) ∧ er ≠ 0 ∧ ∃ rest' ov, IsR w' p G rest' ov
theorem results_ct {fn : Func} {p u : Tmp} {ty : TypeId} {P : Program} (h : fn.results = #[.cell p ty, .tmp u]) (tmps : Array Value) (w : World) (g : Nat) (t : TypeId) (cs : Array Value) (fr : Nat × Nat) (d : TypeDesc)
    (hp : tmps.getD p undef = .pointer (some ⟨g, 0, none⟩)) (hg : w.heap[g]? = some (.cells cs t fr))
    (hd : (match d with | .struct _ | .array _ _ => true | _ => false) = true) (hu : P.underlying ty = some d) (hi : (P.info? ty).map (·.size) = some cs.size) :
    (results fn tmps).run P w = .ok (.tuple #[.agg cs, tmps.getD u undef]) w := by
  rw [results_cell_tmp h, hp]
  simp [asAddr, run_loadVar_row w g t ty cs fr d hg hu (by cases d <;> simp_all) hi, Result.andThen]

set_option maxHeartbeats 1000000 in
set_option maxRecDepth 4000 in
theorem literal_one (w : World) (g p green a r b : Nat) (F G : List Nat) (ls : Nat → List Int) (rest : List Bool) (h : IsG w g F ls) (hr : IsR w p G rest false) (hone : ∀ i, i < 5 → (oneV (ls i)).2 = true)
    (hr1 : (orderOf (ls 1)).getD 0 0 = (r : Int)) (hb1 : (orderOf (ls 2)).getD 0 0 = (b : Int)) (ha1 : (orderOf (ls 3)).getD 0 0 = (a : Int)) (ha : a < 256) (hrr : r < 256) (hgr : green < 256) (hb : b < 256) :
    Calls Tryd.prog 20 #[.pointer (some ⟨g, 0, none⟩), .pointer (some ⟨p, 0, none⟩), .int .i64 green] w fun e w' => e = .returned (.tuple #[.agg (tokC ⟨1, 0, 0, 0, makeN a r green b⟩), .int .i64 0]) ∧ St [] [] w w' := by
  obtain ⟨t, Ft, hp, hT, hF, hgF⟩ := h
  have x0 := run_index_one (P := Tryd.prog) (t := 84) (cs := #[.int .i64 1, .int .i64 2, .int .i64 3]) (i := 0) (u := .int .i64 1) Tryd.underlying84 Tryd.underlying3 rfl (by kernel_rfl) (by omega) (by omega) rfl
  have x1 := run_index_one (P := Tryd.prog) (t := 84) (cs := #[.int .i64 1, .int .i64 2, .int .i64 3]) (i := 1) (u := .int .i64 2) Tryd.underlying84 Tryd.underlying3 rfl (by kernel_rfl) (by omega) (by omega) rfl
  have x2 := run_index_one (P := Tryd.prog) (t := 84) (cs := #[.int .i64 1, .int .i64 2, .int .i64 3]) (i := 2) (u := .int .i64 3) Tryd.underlying84 Tryd.underlying3 rfl (by kernel_rfl) (by omega) (by omega) rfl
  have hin : ∀ i, i < 5 → inRange (ls i) := fun i hi => by
    obtain ⟨_, _, _, _, _, _, _, _, hok, _⟩ := hT i hi
    unfold checkE at hok
    split at hok
    · assumption
    · cases hok
  have a1 := (blk_cell hp 1).trans (gCells_at t 1 (by omega))
  have l1 := blk_lt hp
  have HT := Lib.hid hT
  have HI := Lib.hid hin
  have HR := Lib.hid hr
  have HO := Lib.hid hone
  have a2 := (blk_cell hp 2).trans (gCells_at t 2 (by omega))
  have a3 := (blk_cell hp 3).trans (gCells_at t 3 (by omega))
  have R1 := Lib.hid hr1
  have R2 := Lib.hid hb1
  have R3 := Lib.hid ha1
  clear hT hin hr hF hgF hp hone hr1 hb1 ha1
  go_enter Tryd.func20, Tryd.ntmps20
  go_wp2
  refine wp_loop_rounds 4 ?_
  rw [rounds_succ]
  have s0 := ((St.refl [] w).alloc (.cells #[.int .i64 0, .int .i64 0, .int .i64 0, .int .i64 0, .int .u32 0] 39)).alloc (.cells #[.int .i64 green, .int .i64 0, .int .i64 0, .int .i64 0, .int .i64 0] 50)
  go_wp2_with (go_at_call 19; refine (tread_one _ (t 1) p (Ft 1) G (ls 1) rest ((HT.out 1 (by omega)).keep (((St.refl [] w).alloc _).alloc _) (by simp)) (HR.out.keep (((St.refl [] w).alloc _).alloc _) (by simp)) (HO.out 1 (by omega)) (oneV_many _ (HI.out 1 (by omega)) (HO.out 1 (by omega)))).mono ?_; rintro e w1 ⟨rfl, rfl⟩; rw [R1.out])
  rw [rounds_succ]
  go_wp2_with (go_at_call 19; refine (tread_one _ (t 2) p (Ft 2) G (ls 2) rest ((HT.out 2 (by omega)).keep (((St.refl [] w).alloc _).alloc _) (by simp)) (HR.out.keep (((St.refl [] w).alloc _).alloc _) (by simp)) (HO.out 2 (by omega)) (oneV_many _ (HI.out 2 (by omega)) (HO.out 2 (by omega)))).mono ?_; rintro e w1 ⟨rfl, rfl⟩; rw [R2.out])
  rw [rounds_succ]
  go_wp2_with (go_at_call 19; refine (tread_one _ (t 3) p (Ft 3) G (ls 3) rest ((HT.out 3 (by omega)).keep (((St.refl [] w).alloc _).alloc _) (by simp)) (HR.out.keep (((St.refl [] w).alloc _).alloc _) (by simp)) (HO.out 3 (by omega)) (oneV_many _ (HI.out 3 (by omega)) (HO.out 3 (by omega)))).mono ?_; rintro e w1 ⟨rfl, rfl⟩; rw [R3.out])
  rw [rounds_succ]
  go_wp2_with (go_at_call 32; refine (make_calls _ a r green b ha hrr hgr hb).mono ?_; rintro e w1 ⟨rfl, rfl⟩)
  refine bodyPost_ret (results_ct rfl _ _ w.heap.size _ _ _ _ rfl (blk_old (blk_new _ _) _) rfl Tryd.underlying39 (by kernel_rfl)) rfl ?_
  exact ⟨rfl, ((St.refl [] w).alloc _).alloc _⟩

set_option maxHeartbeats 1000000 in
set_option maxRecDepth 8000 in
/-- A step of a group with one symbol a code. -/
theorem step_one (w : World) (g p green a r b : Nat) (width : Int) (F G : List Nat) (ls : Nat → List Int) (rest : List Bool) (h : IsG w g F ls) (hr : IsR w p G rest false) (hone : ∀ i, i < 5 → (oneV (ls i)).2 = true) (hw : wideC width = true)
    (hg0 : (orderOf (ls 0)).getD 0 0 = (green : Int)) (hr1 : (orderOf (ls 1)).getD 0 0 = (r : Int)) (hb1 : (orderOf (ls 2)).getD 0 0 = (b : Int)) (ha1 : (orderOf (ls 3)).getD 0 0 = (a : Int)) (ha : a < 256) (hrr : r < 256) (hgr : green < 256) (hb : b < 256) :
    Calls Tryd.prog 8 #[.pointer (some ⟨g, 0, none⟩), .pointer (some ⟨p, 0, none⟩), .int .i64 width] w fun e w' => e = .returned (.tuple #[.agg (tokC ⟨1, 0, 0, 0, makeN a r green b⟩), .int .i64 0]) ∧ St [] [] w w' := by
  have HG := Lib.hid h
  obtain ⟨t, Ft, hp, hT, hF, hgF⟩ := h
  have hin : inRange (ls 0) := by
    obtain ⟨_, _, _, _, _, _, _, _, hok, _⟩ := hT 0 (by omega)
    unfold checkE at hok
    split at hok
    · assumption
    · cases hok
  have a0 := (blk_cell hp 0).trans (gCells_at t 0 (by omega))
  have l1 := blk_lt hp
  have HT := Lib.hid hT
  have HI := Lib.hid hin
  have HR := Lib.hid hr
  have HO := Lib.hid hone
  have HW := Lib.hid hw
  have R0 := Lib.hid hg0
  have R1 := Lib.hid hr1
  have R2 := Lib.hid hb1
  have R3 := Lib.hid ha1
  clear hT hin hr hF hgF hp hone hr1 hb1 ha1 hg0 hw
  go_enter Tryd.func8, Tryd.ntmps8
  go_wp2_with (first
    | (go_at_call 18; refine (wide_calls _ _).mono ?_; rintro e w' ⟨rfl, rfl⟩; rw [HW.out])
    | (go_at_call 19; refine (tread_one _ (t 0) p (Ft 0) G (ls 0) rest ((HT.out 0 (by omega)).keep ((St.refl [] w).alloc _) (by simp)) (HR.out.keep ((St.refl [] w).alloc _) (by simp)) (HO.out 0 (by omega)) (oneV_many _ HI.out (HO.out 0 (by omega)))).mono ?_; rintro e w1 ⟨rfl, rfl⟩; rw [R0.out])
    | (go_at_call 20; refine (literal_one _ g p green a r b F G ls rest (HG.out.keep ((St.refl [] w).alloc _) (by simp)) (HR.out.keep ((St.refl [] w).alloc _) (by simp)) HO.out R1.out R2.out R3.out ha hrr hgr hb).mono ?_; rintro e w1 ⟨rfl, hq⟩; have h0 := blk_st hq (by simp) (blk_new w _); have c0 := blk_cell h0 0; have c1 := blk_cell h0 1; have c2 := blk_cell h0 2; have c3 := blk_cell h0 3; have c4 := blk_cell h0 4; have f0 := blk_free h0 0; have f1 := blk_free h0 1; have f2 := blk_free h0 2; have f3 := blk_free h0 3; have f4 := blk_free h0 4; simp at c0 c1 c2 c3 c4; have Q1 := Lib.hid hq; have Q2 := Lib.hid h0; clear hq h0; unfold tokC))
  have hfin := blk_set (blk_set (blk_set (blk_set (blk_set Q2.out 0 (.int .i64 1)) 1 (.int .i64 0)) 2 (.int .i64 0)) 3 (.int .i64 0)) 4 (.int .u32 (makeN a r green b))
  refine bodyPost_ret (results_ct rfl _ _ w.heap.size _ (tokC ⟨1, 0, 0, 0, makeN a r green b⟩) _ _ rfl hfin rfl Tryd.underlying39 (by kernel_rfl)) rfl ?_
  refine ⟨rfl, ?_⟩
  have s1 : St [] [w.heap.size] w w1 := ((St.refl [] w).allocTo _).trans (Q1.out.beside [w.heap.size])
  exact (((((s1.setCell (p := ⟨w.heap.size, 0, none⟩) (by simp) _).setCell (p := ⟨w.heap.size, 1, none⟩) (by simp) _).setCell (p := ⟨w.heap.size, 2, none⟩) (by simp) _).setCell (p := ⟨w.heap.size, 3, none⟩) (by simp) _).setCell (p := ⟨w.heap.size, 4, none⟩) (by simp) _).less (by simp)
end Go.Proofs.YtdklkecoailekaaDoor
