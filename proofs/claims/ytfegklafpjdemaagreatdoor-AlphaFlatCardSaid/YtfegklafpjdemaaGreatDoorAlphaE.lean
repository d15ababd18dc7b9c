/- Alpha planes: what is refused; Encode and Decode of the law's own word. -/
import Derived.Test.YtfegklafpjdemaaGreatDoorAlphaB
import Derived.StillTailTactics
set_option linter.unusedVariables false
set_option linter.unusedSimpArgs false
namespace Go.Proofs.YtfegklafpjdemaaGreatDoor
open Go.RowKit Go Go.Proofs.YtfegklafpjdemaaGreatDoorW Mq

def BadPost (w : World) (e : Ending) (w' : World) : Prop := e = .returned (.tuple #[.slice none 0 0, .bool false]) ∧ St [] [] w w'
theorem forth_bad (w : World) (W H F : Int) (A : Option Addr) (n c : Nat) (hb : goodB W H n = false ∨ filtB F = false) :
    Calls Tryz.prog 8 #[.agg #[.int .i64 W, .int .i64 H, .slice A n c], .int .i64 F] w (BadPost w) := by
  cases hg : goodB W H n
  · have HG := Lib.hid hg
    clear hg hb
    go_enter Tryz.func8, Tryz.ntmps8
    go_wp2_with (go_at_call 16; refine (good_calls _ _ _ _ _ _).mono ?_; rintro e w1 ⟨rfl, hst⟩; rw [HG.out]; have K1 := Lib.hid hst; clear hst)
    go_ret2
    exact ⟨rfl, ((St.refl [] w).alloc _).trans K1.out⟩
  · have hf : filtB F = false := by rcases hb with h | h; rw [hg] at h; cases h; exact h
    have HG := Lib.hid hg
    have HF := Lib.hid hf
    clear hg hf hb
    go_enter Tryz.func8, Tryz.ntmps8
    go_wp2_with (first
      | (go_at_call 16; refine (good_calls _ _ _ _ _ _).mono ?_; rintro e w1 ⟨rfl, hst⟩; rw [HG.out]; have K1 := Lib.hid hst; clear hst)
      | (go_at_call 17; refine (filter_calls _ _).mono ?_; rintro e w' ⟨rfl, rfl⟩; rw [HF.out]))
    go_ret2
    exact ⟨rfl, ((St.refl [] w).alloc _).trans K1.out⟩
theorem back_bad (w : World) (W H F : Int) (A : Option Addr) (n c : Nat) (hb : goodB W H n = false ∨ filtB F = false) :
    Calls Tryz.prog 9 #[.slice A n c, .int .i64 W, .int .i64 H, .int .i64 F] w (BadPost w) := by
  cases hg : goodB W H n
  · have HG := Lib.hid hg
    clear hg hb
    go_enter Tryz.func9, Tryz.ntmps9
    go_wp2_with (go_at_call 16; refine (good_calls _ _ _ _ _ _).mono ?_; rintro e w1 ⟨rfl, hst⟩; rw [HG.out]; have K1 := Lib.hid hst; clear hst)
    go_ret2
    exact ⟨rfl, K1.out⟩
  · have hf : filtB F = false := by rcases hb with h | h; rw [hg] at h; cases h; exact h
    have HG := Lib.hid hg
    have HF := Lib.hid hf
    clear hg hf hb
    go_enter Tryz.func9, Tryz.ntmps9
    go_wp2_with (first
      | (go_at_call 16; refine (good_calls _ _ _ _ _ _).mono ?_; rintro e w1 ⟨rfl, hst⟩; rw [HG.out]; have K1 := Lib.hid hst; clear hst)
      | (go_at_call 17; refine (filter_calls _ _).mono ?_; rintro e w' ⟨rfl, rfl⟩; rw [HF.out]))
    go_ret2
    exact ⟨rfl, K1.out⟩

theorem forth57 : forthL [5, 7] 2 1 = [5, 2] := by decide
theorem back52 : backL [5, 2] 2 1 = [5, 7] := by decide
theorem own_cap {w : World} {e : TypeId} {g n c : Nat} {xs : List Value} (h : Own w e 1 (.slice (some ⟨g, 0, none⟩) n c) n xs) : n ≤ c := by
  rcases h.2 with ⟨h0, _⟩ | ⟨g', cap, cur, h1, h2, h3, h4, h5, h6, h7⟩
  · cases h0
  · injection h1 with h1 h1' h1''
    omega
/-- A slice of one byte, just built. -/
theorem own_one (w : World) (b : Int) : Own (w.alloc (.cells #[.int .u8 b] 5)) 5 1 (.slice (some ⟨w.heap.size, 0, none⟩) 1 1) 1 [.int .u8 b] :=
  ⟨rfl, .inr ⟨w.heap.size, 1, _, rfl, Nat.zero_le _, blk_new _ _, Nat.le_refl _, by decide, rfl, rfl⟩⟩
def EncPost (w : World) (e : Ending) (w' : World) : Prop :=
  ∃ g c', e = .returned (.tuple #[.slice (some ⟨g, 0, none⟩) 3 c', .int .i64 0]) ∧ Own w' 5 1 (.slice (some ⟨g, 0, none⟩) 3 c') 3 (u8s [20, 5, 2]) ∧ w.heap.size ≤ g ∧ St [] [g] w w'
theorem enc_post {w w1 w2 : World} {v' : Value} (hown : Own w2 5 1 v' 3 ([.int .u8 20] ++ u8s [5, 2])) (hg : (w1.alloc (.cells #[.int .u8 20] 5)).grownBy w2 (some w1.heap.size))
    (hat : v'.ownBlock = some w1.heap.size ∨ v'.ownBlock = some (w1.alloc (.cells #[.int .u8 20] 5)).heap.size) (hs : St [] [] w w1) : EncPost w (.returned (.tuple #[v', .int .i64 0])) w2 := by
  obtain ⟨g, c, rfl⟩ := own_some hown (by decide)
  rw [World.size_alloc] at hat
  have hgg : g = w1.heap.size ∨ g = w1.heap.size + 1 := by simpa [Value.ownBlock] using hat
  have hz := hs.size
  refine ⟨g, c, rfl, hown, by omega, ?_⟩
  have s1 : St [] [w1.heap.size] w (w1.alloc (.cells #[.int .u8 20] 5)) := hs.allocTo _
  have s2 := St.grown (v := .slice (some ⟨w1.heap.size, 0, none⟩) 1 1) (v' := .slice (some ⟨g, 0, none⟩) 3 c) s1 hg (by intro k hk; simp [Value.ownBlock] at hk; simp [hk]) (by simpa [Value.ownBlock, World.size_alloc] using hgg)
  exact s2.less (by intro k hk; simp [Value.ownBlock] at hk ⊢; omega)
theorem blk_cell_old (w : World) (b o : Nat) {v : Value} {x : Obj} (h : w.cell? ⟨b, o, none⟩ = some v) : (w.alloc x).cell? ⟨b, o, none⟩ = some v :=
  (World.cell?_of_block (w := w) (Below.heap_alloc _ _ _ (World.block_lt_of_cell? w _ h))).trans h
set_option maxHeartbeats 1000000 in
set_option maxRecDepth 8000 in
theorem encode_word (w : World) (A : Option Addr) (c : Nat) (h : Rd w A (u8s [5, 7])) :
    Calls Tryz.prog 13 #[.agg #[.int .i64 2, .int .i64 1, .slice A 2 c], .int .i64 1, .int .i64 1, .bool false] w (EncPost w) := by
  have HR := Lib.hid h
  clear h
  go_enter Tryz.func13, Tryz.ntmps13
  go_wp2_with (first
    | (go_at_call 8; refine (forth_good _ 2 1 A 2 c [5, 7] 1 1 rfl (by decide) (by decide) (HR.out.keep ((St.refl [] w).alloc _) (Off.nil _)) rfl (by decide)).mono ?_; rintro e w1 ⟨g, c', rfl, hown, hg, hst⟩; rw [forth57] at hown; have hsrc : Src Tryz.prog 1 22 (.slice (some ⟨g, 0, none⟩) 2 c') 2 (u8s [5, 2]) (w1.alloc (.cells #[.int .u8 20] 5)) := Src.ofRd Tryz.underlying22 _ 2 c' _ rfl (by decide) ((Rd.of_own hown).keep ((St.refl [] w1).alloc _) (Off.nil _)) (u8s_one _); have O1 := Lib.hid hown; have G1 := Lib.hid hg; have K1 := Lib.hid hst; have S1 := Lib.hid hsrc; clear hown hg hst hsrc)
    | (at_builtin; refine wpList_app _ rfl _ (.tmp 48) 22 22 rfl 5 (.int .u8 0) 1 1 Tryz.underlying22 Tryz.info5 rfl (by decide) (.slice (some ⟨w1.heap.size, 0, none⟩) 1 1) 1 _ rfl (own_one w1 20) _ _ _ rfl S1.out (by decide) (by decide) ?_; intro v' w2 hown hg _ hat; have O2 := Lib.hid hown; have K2 := Lib.hid hg; have A2 := Lib.hid hat; clear hown hg hat))
  go_ret2
  exact enc_post O2.out K2.out A2.out (((St.refl [] w).alloc _).trans (K1.out.less (by simp)))

theorem results_ctt {fn : Func} {p u u2 : Tmp} {ty : TypeId} {P : Program} (h : fn.results = #[.cell p ty, .tmp u, .tmp u2]) (tmps : Array Value) (w : World) (g : Nat) (t : TypeId) (cs : Array Value) (fr : Nat × Nat) (d : TypeDesc)
    (hp : tmps.getD p undef = .pointer (some ⟨g, 0, none⟩)) (hg : w.heap[g]? = some (.cells cs t fr))
    (hd : (match d with | .struct _ | .array _ _ => true | _ => false) = true) (hu : P.underlying ty = some d) (hi : (P.info? ty).map (·.size) = some cs.size) :
    (results fn tmps).run P w = .ok (.tuple #[.agg cs, tmps.getD u undef, tmps.getD u2 undef]) w := by
  have h0 : (results fn tmps).run P w = ((asAddr (tmps.getD p undef)).run P w).andThen fun a w₁ => ((loadVar ty a).run P w₁).andThen fun v w₂ => .ok (.tuple #[v, tmps.getD u undef, tmps.getD u2 undef]) w₂ := by
    simp only [results, h]
    simp [Sem.run_bind, Result.andThen]
  rw [h0, hp]
  simp [asAddr, run_loadVar_row w g t ty cs fr d hg hu (by cases d <;> simp_all) hi, Result.andThen]
theorem rd_tail {w : World} {b o : Nat} {x : Nat} {xs : List Nat} (h : Rd w (some ⟨b, o, none⟩) (u8s (x :: xs))) : Rd w (some ⟨b, o + 1, none⟩) (u8s xs) := by
  obtain ⟨b', o', e, hb, hc⟩ := h.at_ (by simp [u8s])
  injection e with e
  injection e with e1 e2
  subst e1 e2
  refine .inr ⟨b, o + 1, rfl, hb, fun j u hj => ?_⟩
  have := hc (j + 1) u (by simpa [u8s] using hj)
  rw [show o + 1 + j = o + (j + 1) by omega]
  exact this
def InPost (w : World) (e : Ending) (w' : World) : Prop :=
  ∃ g c', e = .returned (.tuple #[.slice (some ⟨g, 0, none⟩) 2 c', .int .i64 0]) ∧ Own w' 5 1 (.slice (some ⟨g, 0, none⟩) 2 c') 2 (u8s [5, 2]) ∧ w.heap.size ≤ g ∧ St [] [g] w w'
set_option maxHeartbeats 1000000 in
set_option maxRecDepth 8000 in
theorem inner_word (w : World) (b o c : Nat) (h : Rd w (some ⟨b, o, none⟩) (u8s [20, 5, 2])) (hc3 : 3 ≤ c) :
    Calls Tryz.prog 26 #[.slice (some ⟨b, o, none⟩) 3 c, .int .i64 2, .int .i64 1] w (InPost w) := by
  have hR := rd_tail h
  obtain ⟨b', o', e, hb, hc⟩ := rd_u8 h (by simp)
  injection e with e
  injection e with e1 e2
  subst e1 e2
  have c0 := hc 0 (by simp)
  simp at c0
  have x0 : bits BinOp.and IntKind.u8 20 3 = 0 := by decide
  have HR := Lib.hid hR
  clear hR hc h
  go_enter Tryz.func26, Tryz.ntmps26
  go_wp2_with (go_at_call 45; refine (sclone_calls _ _ 2 _ [5, 2] HR.out rfl (by decide) (by decide)).mono ?_; rintro e w1 ⟨g, c', rfl, hown, hg, hst⟩; have O1 := Lib.hid hown; have G1 := Lib.hid hg; have K1 := Lib.hid hst; clear hown hg hst)
  go_ret2
  exact ⟨g, c', rfl, O1.out, G1.out, K1.out⟩
def DecPost (w : World) (e : Ending) (w' : World) : Prop :=
  ∃ g c', e = .returned (.tuple #[.agg #[.int .i64 2, .int .i64 1, .slice (some ⟨g, 0, none⟩) 2 c'], .int .i64 1, .int .i64 0]) ∧ St [] [] w w'
set_option maxHeartbeats 1000000 in
set_option maxRecDepth 8000 in
theorem decode_word (w : World) (b o c : Nat) (h : Rd w (some ⟨b, o, none⟩) (u8s [20, 5, 2])) (hc3 : 3 ≤ c) :
    Calls Tryz.prog 15 #[.slice (some ⟨b, o, none⟩) 3 c, .int .i64 2, .int .i64 1, .int .i64 9] w (DecPost w) := by
  have hR := h
  obtain ⟨b', o', e, hb, hc⟩ := rd_u8 h (by simp)
  injection e with e
  injection e with e1 e2
  subst e1 e2
  have c0 := hc 0 (by simp)
  simp at c0
  have x0 : bits BinOp.and IntKind.u8 20 3 = 0 := by decide
  have x1 : bits BinOp.and IntKind.u8 5 3 = 1 := by decide
  have s1 : sideB 2 = true := by decide
  have s2 : sideB 1 = true := by decide
  have HR := Lib.hid hR
  have S1 := Lib.hid s1
  have S2 := Lib.hid s2
  clear hR hc h s1 s2
  go_enter Tryz.func15, Tryz.ntmps15
  go_wp2_with (first
    | (go_at_call 25; refine (side_calls _ _).mono ?_; rintro e w' ⟨rfl, rfl⟩; first | rw [S1.out] | rw [S2.out])
    | (go_at_call 26; refine (inner_word _ b o c (HR.out.keep ((St.refl [] w).alloc _) (Off.nil _)) hc3).mono ?_; rintro e w1 ⟨g, c', rfl, hown, hg, hst⟩; have hb1 := blk_st hst (by simp) (blk_new w _); have d0 := (hst.cell (p := ⟨b, o, none⟩) (by rw [World.size_alloc]; show b < _; omega) (by simp)).trans ((blk_cell_old w b o c0)); have O1 := Lib.hid hown; have G1 := Lib.hid hg; have K1 := Lib.hid hst; have B1 := Lib.hid hb1; clear hown hg hst hb1)
    | (go_at_call 9; refine (back_good _ 2 1 (some ⟨g, 0, none⟩) 2 c' [5, 2] 1 1 rfl (by decide) (by decide) (Rd.of_own O1.out) rfl (by decide)).mono ?_; rintro e w2 ⟨g2, c2, rfl, hown, hg, hst⟩; have hb2 := blk_st hst (by simp) B1.out; have d1 := (hst.cell (p := ⟨b, o, none⟩) (World.block_lt_of_cell? w1 _ d0) (by simp)).trans d0; have K2 := Lib.hid hst; have B2 := Lib.hid hb2; clear hown hg hst hb2))
  have e0 := blk_cell B2.out 0
  have e1 := blk_cell B2.out 1
  have e2 := blk_cell B2.out 2
  have f0 := blk_free B2.out 0
  have f1 := blk_free B2.out 1
  have f2 := blk_free B2.out 2
  simp at e0 e1 e2
  have x2 : (20 : Int) / 16 = 1 := by decide
  clear x0 x1
  go_region
  go_wp2
  have hfin := blk_set (blk_set (blk_set B2.out 0 (.int .i64 2)) 1 (.int .i64 1)) 2 (.slice (some ⟨g2, 0, none⟩) 2 c2)
  refine bodyPost_ret (results_ctt rfl _ _ w.heap.size _ #[.int .i64 2, .int .i64 1, .slice (some ⟨g2, 0, none⟩) 2 c2] _ _ rfl hfin rfl Tryz.underlying24 (by kernel_rfl)) rfl ?_
  refine ⟨g2, c2, rfl, ?_⟩
  have s1 : St [] [w.heap.size] w w1 := ((St.refl [] w).allocTo _).trans ((K1.out.beside [w.heap.size]).less (by simp))
  have s2 : St [] [w.heap.size] w w2 := s1.trans ((K2.out.beside [w.heap.size]).less (by simp))
  exact ((((s2.setCell (p := ⟨w.heap.size, 0, none⟩) (by simp) _).setCell (p := ⟨w.heap.size, 1, none⟩) (by simp) _).setCell (p := ⟨w.heap.size, 2, none⟩) (by simp) _).drew).less (by simp)

set_option maxHeartbeats 1000000 in
set_option maxRecDepth 8000 in
theorem answers_calls (w : World) : Calls Tryz.prog 7 #[] w fun e w' => e = .returned (.bool true) ∧ St [] [] w w' := by
  have hR : Rd (w.alloc (.cells #[.int .u8 5, .int .u8 7] 5)) (some ⟨w.heap.size, 0, none⟩) (u8s [5, 7]) := .inr ⟨w.heap.size, 0, rfl, blk_lt (blk_new w _), fun j u hj => by rw [Nat.zero_add, blk_cell (blk_new w _)]; simpa [u8s] using hj⟩
  have HR := Lib.hid hR
  clear hR
  go_enter Tryz.func7, Tryz.ntmps7
  go_wp2_with (first
    | (go_at_call 13; refine (encode_word _ _ _ HR.out).mono ?_; rintro e w1 ⟨g, c', rfl, hown, hg, hst⟩; have r0 := own_cell hown rfl (show 0 < 3 by decide); have r2 := own_cell hown rfl (show 2 < 3 by decide); have lg := own_blk hown; have hc3 : 3 ≤ c' := own_cap hown; simp at r0 r2; have O1 := Lib.hid hown; have G1 := Lib.hid hg; have K1 := Lib.hid hst; clear hown hg hst)
    | (go_at_call 15; refine (decode_word _ g 0 c' (Rd.of_own O1.out) hc3).mono ?_; rintro e w2 ⟨g2, c2, rfl, hst⟩; have q0 := (hst.cell (p := ⟨g, 0, none⟩) lg (by simp)).trans r0; have q2 := (hst.cell (p := ⟨g, 2, none⟩) lg (by simp)).trans r2; have lg2 := Nat.lt_of_lt_of_le lg hst.size; have K2 := Lib.hid hst; clear hst))
  go_ret
  refine ⟨rfl, ?_⟩
  exact (((((St.refl [] w).alloc _).trans (K1.out.less (by simp))).trans K2.out).alloc _)
end Go.Proofs.YtfegklafpjdemaaGreatDoor
