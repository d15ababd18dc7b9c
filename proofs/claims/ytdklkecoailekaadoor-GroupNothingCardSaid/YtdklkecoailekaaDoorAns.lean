/- The law's own word: answers. -/
import Derived.Test.YtdklkecoailekaaDoorCount
set_option linter.unusedVariables false
namespace Go.Proofs.YtdklkecoailekaaDoor
open Go.RowKit Go Go.Shelf Go.Proofs.YtdklkecoailekaaDoorW Mq

theorem lit_said (t : Tok) (width : Int) (hk : t.kind = 1) (hw : wideC width = true) (ha : t.argb < 4294967296) : PartsSaid (fun t => litParts t.argb) width t := by
  intro W
  refine (parts_lit W t width hk hw ha).mono ?_
  rintro e w' ⟨b, rfl, hb, hst, hfr⟩
  exact .inr ⟨by simp [litParts], b, rfl, hb, hst, hfr⟩
theorem lit_code (a : Nat) : ∀ p ∈ litParts a, p.code < 5 := by
  intro p hp
  simp only [litParts, List.mem_cons, List.not_mem_nil, or_false] at hp
  rcases hp with rfl | rfl | rfl | rfl <;> simp
def tokA : Tok := ⟨1, 0, 0, 0, 16909060⟩
theorem Rd.ofBlk {w : World} {b : Nat} {cs : Array Value} {t : TypeId} {fr : Nat × Nat} (h : w.heap[b]? = some (.cells cs t fr)) : Rd w (some ⟨b, 0, none⟩) cs.toList :=
  .inr ⟨b, 0, rfl, blk_lt h, fun j u hj => by rw [Nat.zero_add, blk_cell h]; simpa using hj⟩
def cntA : Nat → List Int := bump (bump (bump (bump (fun j => List.replicate (nOf 0 j) 0) 0 3) 1 2) 2 4) 3 1
set_option maxRecDepth 8000 in
theorem cntA_eq : countToks (fun t => litParts t.argb) (fun j => List.replicate (nOf 0 j) 0) [tokA] = some cntA := by
  simp [countToks, litParts, countParts, tokA, bump_length, nOf, greensOf, cntA]
set_option maxRecDepth 8000 in
theorem cntA_0 : (ints (cntA 0)).toArray[3]? = some (.int .i64 1) := by
  simp [cntA, bump, ints, nOf, greensOf]
set_option maxRecDepth 8000 in
theorem cntA_3 : (ints (cntA 3)).toArray[1]? = some (.int .i64 1) := by
  simp [cntA, bump, ints, nOf, greensOf]

set_option maxHeartbeats 1000000 in
set_option maxRecDepth 8000 in
theorem answers_calls (w : World) : Calls Tryd.prog 4 #[] w fun e w' => e = .returned (.bool true) ∧ Below w.heap.size w w' := by
  have x0 := run_index_one (P := Tryd.prog) (t := 50) (cs := #[.int .i64 282, .int .i64 256, .int .i64 256, .int .i64 256, .int .i64 40]) (i := 0) (u := .int .i64 282) Tryd.underlying50 Tryd.underlying3 rfl (by kernel_rfl) (by omega) (by omega) rfl
  go_enter Tryd.func4, Tryd.ntmps4
  go_wp2_with (first
    | (go_at_call 13; go_loud (refine (count_calls _ 0 5 (some ⟨w.heap.size, 0, none⟩) 1 [tokA] (fun t => litParts t.argb) (by omega) (Rd.ofBlk (blk_new w _)) (by decide) (fun t ht => by rw [List.mem_singleton.1 ht]; exact lit_said tokA 5 rfl rfl (by decide)) (fun t ht p hp => lit_code _ p hp) (fun t ht => by simp [litParts])).mono ?_; rw [cntA_eq]; rintro e w1 ⟨R, rfl, hrow, hbel⟩; unfold fCells fv; have r0 := (blk_cell (hrow 0 (by omega)) 3).trans cntA_0; have r3 := (blk_cell (hrow 3 (by omega)) 1).trans cntA_3; have l0 := blk_lt (hrow 0 (by omega)); have l3 := blk_lt (hrow 3 (by omega)); have n0 : nOf 0 0 = 280 := rfl; have n3 : nOf 0 3 = 256 := rfl; have B1 := Lib.hid hbel; clear hrow hbel))
    | (go_at_call 14; refine (sizes_calls _ 1).mono ?_; rintro e w2 ⟨rfl, hst⟩; rw [show sizesV 1 = .agg #[.int .i64 282, .int .i64 256, .int .i64 256, .int .i64 256, .int .i64 40] from rfl]; have B2 := Lib.hid hst; clear hst))
  go_ret
  have hs : w.heap.size + 1 ≤ w1.heap.size := by have := B1.out.size; simpa [World.size_alloc] using this
  exact ⟨rfl, ((((Below.refl _ w).alloc (Nat.le_refl _) _).trans (B1.out.mono (by simp [World.size_alloc]))).alloc (by omega) _).trans (B2.out.below.mono (by simp [World.size_alloc]; omega))⟩
end Go.Proofs.YtdklkecoailekaaDoor
