/- Alpha planes: Back. -/
import Derived.Test.YtfegklafpjdemaaGreatDoorAlphaF
set_option linter.unusedVariables false
set_option linter.unusedSimpArgs false
namespace Go.Proofs.YtfegklafpjdemaaGreatDoor
open Go.RowKit Go Go.Proofs.YtfegklafpjdemaaGreatDoorW Mq

theorem box3_keep {W1 wc w1 : World} {g k B : Nat} {v0 v1 v2 : Value} (h : wc.cell? ⟨g, k, none⟩ = some v0 ∧ wc.frozen? ⟨g, k, none⟩ = false ∧ wc.cell? ⟨B, 0, none⟩ = some v1 ∧ wc.cell? ⟨B, 1, none⟩ = some v2 ∧ St [] [] W1 wc)
    (q : St [] [] wc w1) (hg : g < W1.heap.size) (h7 : B < W1.heap.size) :
    w1.cell? ⟨g, k, none⟩ = some v0 ∧ w1.frozen? ⟨g, k, none⟩ = false ∧ w1.cell? ⟨B, 0, none⟩ = some v1 ∧ w1.cell? ⟨B, 1, none⟩ = some v2 ∧ St [] [] W1 w1 := by
  obtain ⟨a, a', b, c, e⟩ := h
  have hs := e.size
  exact ⟨(q.cell (p := ⟨g, k, none⟩) (by show g < _; omega) (by simp)).trans a, (q.frozen (p := ⟨g, k, none⟩) (by show g < _; omega) (by simp)).trans a', (q.cell (p := ⟨B, 0, none⟩) (by show B < _; omega) (by simp)).trans b, (q.cell (p := ⟨B, 1, none⟩) (by show B < _; omega) (by simp)).trans c, e.trans q⟩
set_option maxHeartbeats 2000000 in
set_option maxRecDepth 8000 in
theorem back_good (w : World) (W : Nat) (H : Int) (A : Option Addr) (n c : Nat) (bs : List Nat) (f : Nat) (F : Int) (hF : F = f) (hf : f ≤ 3) (hgood : goodB W H n = true) (h : Rd w A (u8s bs)) (hn : bs.length = n) (h8 : ∀ b ∈ bs, b < 256) :
    Calls Tryz.prog 9 #[.slice A n c, .int .i64 W, .int .i64 H, .int .i64 F] w (FlPost w n (backL bs W f)) := by
  obtain ⟨hW, hH, hnn⟩ := goodB_true hgood
  have hpl := prod_le hW hH
  rw [← hnn] at hpl
  have hn1 : 0 < n := by omega
  have hn2 : n ≤ 268435456 := by omega
  have hW1 : 0 < W := by omega
  have hW2 : W ≤ 16384 := by omega
  have hfb : filtB F = true := by unfold filtB; simp; omega
  have HG := Lib.hid hgood
  have HB := Lib.hid hfb
  have HR := Lib.hid h
  have HN := Lib.hid hn
  have H8 := Lib.hid h8
  have HFF := Lib.hid hF
  clear hgood hfb h hn h8 hF hW hH hnn hpl
  go_enter Tryz.func9, Tryz.ntmps9
  go_wp2_with (first
    | (go_at_call 16; refine (good_calls _ _ _ _ _ _).mono ?_; rintro e w1 ⟨rfl, hst⟩; rw [HG.out]; have K1 := Lib.hid hst; clear hst)
    | (go_at_call 17; refine (filter_calls _ _).mono ?_; rintro e w' ⟨rfl, rfl⟩; rw [HB.out])
    | (go_at_call 18; refine (bclone_calls _ A n c bs (HR.out.keep K1.out (Off.nil _)) HN.out hn1 (by omega)).mono ?_; rintro e w2 ⟨g, c', rfl, hown, hg, hst⟩; rw [HN.out] at hown; rw [HN.out]; have K2 := Lib.hid hst; have O2 := Lib.hid hown; have G2 := Lib.hid hg; clear hst hown hg))
  obtain ⟨W0, hW0⟩ : ∃ W0, w2.alloc (.cells #[.int .i64 W, .slice (some ⟨g, 0, none⟩) n c'] 44) = W0 := ⟨_, rfl⟩
  have hg0 : g < w2.heap.size := own_blk O2.out
  have hgw : w.heap.size ≤ g := by have h1 := G2.out; have h2 := K1.out.size; omega
  have hb7 : W0.heap[w2.heap.size]? = some (.cells #[.int .i64 W, .slice (some ⟨g, 0, none⟩) n c'] 44 (0, 0)) := by rw [← hW0]; exact blk_new w2 _
  have ho0 : Own W0 5 1 (.slice (some ⟨g, 0, none⟩) n c') n (u8s bs) := by rw [← hW0]; exact World.ownsRow.alloc O2.out _
  have s0 : St [] [g] w W0 := by rw [← hW0]; exact (K1.out.trans K2.out).alloc _
  have d0 : W0.cell? ⟨w2.heap.size, 0, none⟩ = some (.int .i64 W) := blk_cell hb7 0
  have d1 : W0.cell? ⟨w2.heap.size, 1, none⟩ = some (.slice (some ⟨g, 0, none⟩) n c') := blk_cell hb7 1
  rw [hW0]
  have B7 := Lib.hid hb7
  have O0 := Lib.hid ho0
  have S0 := Lib.hid s0
  clear hW0 hb7 ho0 s0
  go_wp2
  go_loopw [30] (fun i wr => FoRel W0 g c' n (backTo bs W f) i wr) (fun i _ => n - (intOf i).toNat)
  case atStart => exact ⟨0, by omega, rfl, O0.out, St.refl _ _⟩
  case round =>
    obtain ⟨k, hk, rfl, hown, hst⟩ := hrel
    have OW := Lib.hid hown
    have KS := Lib.hid hst
    clear hown hst
    have q7 := blk_st KS.out (by simp; omega) B7.out
    have c70 := (blk_cell q7 0)
    have c71 := (blk_cell q7 1)
    simp at c70 c71
    have lw7 := blk_lt q7
    clear q7
    by_cases hlt : k < n
    · obtain ⟨x, hx⟩ : ∃ x, k % W = x := ⟨_, rfl⟩
      obtain ⟨y, hy⟩ : ∃ y, k / W = y := ⟨_, rfl⟩
      obtain ⟨cur, hcur⟩ : ∃ cur, bs.getD k 0 = cur := ⟨_, rfl⟩
      obtain ⟨gs, hgs⟩ : ∃ gs, ag (backTo bs W f k) W f k = gs := ⟨_, rfl⟩
      have h8k := backTo_lt bs W f H8.out k
      have hcur8 : cur < 256 := by rw [← hcur]; exact getD_lt bs H8.out k
      have hgs8 : gs < 256 := by rw [← hgs]; exact ag_lt _ W f k h8k
      have hkk : y * W + x = k := by rw [← hx, ← hy, Nat.mul_comm]; exact Nat.div_add_mod k W
      have hyk : y ≤ k := by rw [← hy]; exact Nat.div_le_self k W
      have hxk : x ≤ k := by rw [← hx]; exact Nat.mod_le k W
      have z1 : (k : Int).tmod (W : Int) = (x : Int) := by rw [← hx]; rfl
      have z2 : (k : Int).tdiv (W : Int) = (y : Int) := by rw [← hy]; rfl
      have z3 : (k : Int) % (W : Int) = (x : Int) := by rw [← hx]; rfl
      have z4 : (k : Int) / (W : Int) = (y : Int) := by rw [← hy]; rfl
      have z6 : IntKind.i64.wrap (y : Int) = (y : Int) := IntWalk.i64_in _ (by omega)
      obtain ⟨nv, hnv⟩ : ∃ nv, (cur + gs) % 256 = nv := ⟨_, rfl⟩
      have z5 : IntKind.u8.wrap ((cur : Int) + (gs : Int)) = (nv : Int) := by rw [← hnv]; simp only [IntKind.wrap, IntKind.signed, IntKind.bits]; simp
      have cg : wr.cell? ⟨g, k, none⟩ = some (.int .u8 cur) := by
        have := own_cell OW.out (by rw [backTo_length]; exact HN.out) hlt
        rw [backTo_rest bs W f k k (Nat.le_refl _), hcur] at this
        exact this
      have fg : wr.frozen? ⟨g, k, none⟩ = false := own_free OW.out k
      have hgl := own_blk OW.out
      have T1 : ∀ W', St [] [] wr W' → Calls Tryz.prog 19 #[.agg #[.int .i64 W, .slice (some ⟨g, 0, none⟩) n c'], .int .i64 F, .int .i64 x, .int .i64 y] W' (GPost W' gs) := fun W' kk => by
        have h1 := guess_calls W' (some ⟨g, 0, none⟩) n c' (backTo bs W f k) W f x y F x y HFF.out rfl rfl ((Rd.of_own OW.out).keep kk (Off.nil _)) (by rw [backTo_length]; exact HN.out) h8k hf (by omega) (by omega) (by omega) (by omega) (by omega)
        rw [← hgs]
        unfold ag
        rw [hx, hy]
        exact h1
      have U1 := Lib.hid T1
      have HC := Lib.hid hcur
      have HGS := Lib.hid hgs
      have HNV := Lib.hid hnv
      clear T1 hx hy hcur hgs hnv hkk h8k
      go_wp2_with fail
      have hw0 : ¬ W = 0 := by omega
      refine wp_region_last 16 (fun w' => w'.cell? ⟨g, k, none⟩ = some (.int .u8 cur) ∧ w'.frozen? ⟨g, k, none⟩ = false ∧ w'.cell? ⟨w2.heap.size, 0, none⟩ = some (.int .i64 W) ∧ w'.cell? ⟨w2.heap.size, 1, none⟩ = some (.slice (some ⟨g, 0, none⟩) n c') ∧ St [] [] wr w')
        (by kernel_rfl) ⟨cg, fg, c70, c71, (St.refl [] wr).drew⟩ (fun hS0 => ?_)
      refine AnyT.take (i := 0) (v := ?_) rfl (by kernel_rfl) (fun _ _ _ h => h) (Or.inl ⟨by rfl, ?_⟩) (by assumption) ?_
      rotate_left
      · (intro w' hSw; (try dsimp only at hSw); go_split_ands; go_simp; try with_reducible rfl)
      try simp only [Act.put, List.setIfInBounds_toArray, List.set_cons_zero, List.set_cons_succ]
      refine AnyT.take (i := 1) (v := ?_) rfl (by kernel_rfl) (fun _ _ _ h => h) (Or.inl ⟨by rfl, ?_⟩) (by assumption) ?_
      rotate_left
      · (intro w' hSw; (try dsimp only at hSw); go_split_ands; go_simp; try with_reducible rfl)
      try simp only [Act.put, List.setIfInBounds_toArray, List.set_cons_zero, List.set_cons_succ]
      refine AnyT.take (i := 2) (v := ?_) rfl (by kernel_rfl) (fun _ _ _ h => h) (Or.inl ⟨by rfl, ?_⟩) (by assumption) ?_
      rotate_left
      · (intro w' hSw; (try dsimp only at hSw); go_split_ands; go_simp; try with_reducible rfl)
      try simp only [Act.put, List.setIfInBounds_toArray, List.set_cons_zero, List.set_cons_succ]
      refine AnyT.take (i := 3) (v := ?_) rfl (by kernel_rfl) (fun _ _ _ h => h) (Or.inl ⟨by rfl, ?_⟩) (by assumption) ?_
      rotate_left
      · (intro w' hSw; (try dsimp only at hSw); go_split_ands; go_simp; try with_reducible rfl)
      try simp only [Act.put, List.setIfInBounds_toArray, List.set_cons_zero, List.set_cons_succ]
      refine AnyT.take (i := 4) (v := ?_) rfl (by kernel_rfl) (fun _ _ _ h => h) (Or.inl ⟨by rfl, ?_⟩) (by assumption) ?_
      rotate_left
      · (intro w' hSw; (try dsimp only at hSw); go_split_ands; go_simp; try with_reducible rfl)
      try simp only [Act.put, List.setIfInBounds_toArray, List.set_cons_zero, List.set_cons_succ]
      refine AnyT.take (i := 5) (v := ?_) rfl (by kernel_rfl) (fun _ _ _ h => h) (Or.inl ⟨by rfl, ?_⟩) (by assumption) ?_
      rotate_left
      · (intro w' hSw; (try dsimp only at hSw); go_split_ands; go_simp; try with_reducible rfl)
      try simp only [Act.put, List.setIfInBounds_toArray, List.set_cons_zero, List.set_cons_succ]
      refine AnyT.take (i := 6) (v := ?_) rfl (by kernel_rfl) (fun _ _ _ h => h) (Or.inl ⟨by rfl, ?_⟩) (by assumption) ?_
      rotate_left
      · (intro w' hSw; (try dsimp only at hSw); go_split_ands; go_simp; try with_reducible rfl)
      try simp only [Act.put, List.setIfInBounds_toArray, List.set_cons_zero, List.set_cons_succ]
      refine AnyT.take (i := 7) (v := ?_) rfl (by kernel_rfl) (fun _ _ _ h => h) (Or.inl ⟨by rfl, ?_⟩) (by assumption) ?_
      rotate_left
      · (intro w' hSw; (try dsimp only at hSw); go_split_ands; go_simp; try with_reducible rfl)
      try simp only [Act.put, List.setIfInBounds_toArray, List.set_cons_zero, List.set_cons_succ]
      refine AnyT.take (i := 8) (v := ?_) rfl (by kernel_rfl) (fun _ _ _ h => h) (Or.inl ⟨by rfl, ?_⟩) (by assumption) ?_
      rotate_left
      · (intro w' hSw; (try dsimp only at hSw); go_split_ands; go_simp; try with_reducible rfl)
      try simp only [Act.put, List.setIfInBounds_toArray, List.set_cons_zero, List.set_cons_succ]
      refine AnyT.take (i := 9) (v := ?_) rfl (by kernel_rfl) (fun _ _ _ h => h) (Or.inl ⟨by rfl, ?_⟩) (by assumption) ?_
      rotate_left
      · (intro w' hSw; (try dsimp only at hSw); go_split_ands; go_simp; try with_reducible rfl)
      try simp only [Act.put, List.setIfInBounds_toArray, List.set_cons_zero, List.set_cons_succ]
      refine AnyT.take (i := 10) (v := ?_) rfl (by kernel_rfl) (fun _ _ _ h => h) (Or.inl ⟨by rfl, ?_⟩) (by assumption) ?_
      rotate_left
      · (intro w' hSw; (try dsimp only at hSw); go_split_ands; go_simp; try with_reducible rfl)
      try simp only [Act.put, List.setIfInBounds_toArray, List.set_cons_zero, List.set_cons_succ]
      refine AnyT.take (i := 11) (v := ?_) rfl (by kernel_rfl) (fun _ _ _ h => h) (Or.inl ⟨by rfl, ?_⟩) (by assumption) ?_
      rotate_left
      · (intro w' hSw; (try dsimp only at hSw); go_split_ands; go_simp; try with_reducible rfl)
      try simp only [Act.put, List.setIfInBounds_toArray, List.set_cons_zero, List.set_cons_succ]
      refine AnyT.take (i := 12) (v := ?_) rfl (by kernel_rfl) (fun _ _ _ h => h) (Or.inl ⟨by rfl, ?_⟩) (by assumption) ?_
      rotate_left
      · (intro w' hSw; (try dsimp only at hSw); go_split_ands; go_simp; try with_reducible rfl)
      try simp only [Act.put, List.setIfInBounds_toArray, List.set_cons_zero, List.set_cons_succ]
      refine AnyT.one (i := 13) rfl (by kernel_rfl) (by decide) (fun K hK => ?_)
      go_simp
      go_at_call 19
      refine Calls.mono (U1.out _ (St.refl [] wr).drew) ?_
      intro e w1 hq
      obtain ⟨rfl, hst⟩ := hq
      have hS1 := box3_keep hS0 hst hgl lw7
      have HS1 := Lib.hid hS1.2.2.2.2
      refine hK _ _ hS1 ?_
      try simp only [Act.put, List.setIfInBounds_toArray, List.set_cons_zero, List.set_cons_succ]
      refine AnyT.take (i := 14) (v := ?_) rfl (by kernel_rfl) (fun _ _ _ h => h) (Or.inl ⟨by rfl, ?_⟩) (by assumption) ?_
      rotate_left
      · (intro w' hSw; (try dsimp only at hSw); go_split_ands; go_simp; try with_reducible rfl)
      try simp only [Act.put, List.setIfInBounds_toArray, List.set_cons_zero, List.set_cons_succ]
      refine AnyT.take (i := 15) (v := ?_) rfl (by kernel_rfl) (fun _ _ _ h => h) (Or.inl ⟨by rfl, ?_⟩) (by assumption) ?_
      rotate_left
      · (intro w' hSw; (try dsimp only at hSw); go_split_ands; go_simp; try with_reducible rfl)
      try simp only [Act.put, List.setIfInBounds_toArray, List.set_cons_zero, List.set_cons_succ]
      refine AnyT.last (n := 16) rfl (by kernel_rfl) (by kernel_rfl) ?_
      go_split_ands
      go_simp
      go_wp2
      case roundEnd =>
        refine ⟨⟨k + 1, by omega, rfl, ?_, ?_⟩, ?_⟩
        · have hs := Own.store (OW.out.keep HS1.out (by simp)) k (.int .u8 nv) hlt
          have e : (u8s (backTo bs W f k)).set k (.int .u8 (nv : Int)) = u8s (backTo bs W f (k + 1)) := by
            rw [backTo, HC.out, HGS.out, HNV.out]
            simp [u8s, List.map_set]
          rw [e] at hs
          exact hs
        · exact KS.out.trans ((HS1.out.beside [g]).trans ((St.refl [g] w1).setCell (p := ⟨g, k, none⟩) (by simp) _))
        · show n - ((k : Int) + 1).toNat < n - (k : Int).toNat
          omega
    · obtain rfl : k = n := by omega
      go_wp2
      go_ret2
      refine ⟨g, c', rfl, ?_, by omega, S0.out.trans KS.out⟩
      have := OW.out
      unfold backL
      rw [HN.out]
      exact this
end Go.Proofs.YtfegklafpjdemaaGreatDoor
