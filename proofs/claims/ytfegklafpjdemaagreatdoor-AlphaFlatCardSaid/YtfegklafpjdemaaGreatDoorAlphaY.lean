/- The reference's Filter, back. -/
import Derived.Test.YtfegklafpjdemaaGreatDoorAlphaX
set_option linter.unusedVariables false
set_option linter.unusedSimpArgs false
namespace Go.Proofs.YtfegklafpjdemaaGreatDoor
open Go.RowKit Go Go.Proofs.YtfegklafpjdemaaGreatDoorW Mq

set_option maxHeartbeats 4000000 in
set_option maxRecDepth 8000 in
theorem filter_back (w : World) (W H : Nat) (A : Option Addr) (n c : Nat) (bs : List Nat) (f : Nat) (F : Int) (hF : F = f) (hf : f ≤ 3) (hW : 1 ≤ W ∧ W ≤ 16384) (hH : 1 ≤ H ∧ H ≤ 16384) (hnn : n = H * W) (h : Rd w A (u8s bs)) (hn : bs.length = n) (h8 : ∀ b ∈ bs, b < 256) :
    Calls Tryz.prog 12 #[.slice A n c, .int .i64 W, .int .i64 H, .int .i64 F, .bool true] w (FiPost w n (backL bs W f)) := by
  have hn1 : 0 < n := by rw [hnn]; exact Nat.mul_pos hH.1 hW.1
  have hn2 : n ≤ 268435456 := by rw [hnn]; have := Nat.mul_le_mul hH.2 hW.2; omega
  have W1 := hW.1
  have W2 := hW.2
  have H1 := hH.1
  have H2 := hH.2
  obtain ⟨ab, ao, rfl, habl, hac⟩ := rd_u8 h (by omega)
  have hsrc : Src Tryz.prog 1 22 (.slice (some ⟨ab, ao, none⟩) n c) n (u8s bs) (w.alloc (.cells #[] 5)) := Src.ofRd Tryz.underlying22 _ n c _ (by rw [u8s_length, hn, Nat.mul_one]) (by decide) (h.keep ((St.refl [] w).alloc _) (Off.nil _)) (u8s_one bs)
  have HR := Lib.hid h
  have HN := Lib.hid hn
  have H8 := Lib.hid h8
  have HFF := Lib.hid hF
  have HNN := Lib.hid hnn
  have HAC := Lib.hid hac
  have HSR := Lib.hid hsrc
  clear h hn h8 hF hW hH hnn hac hsrc
  go_enter Tryz.func12, Tryz.ntmps12
  go_wp2_with (at_builtin; refine wpList_app _ rfl _ (.tmp 15) 22 22 rfl 5 (.int .u8 0) 1 1 Tryz.underlying22 Tryz.info5 rfl (by decide) (.slice (some ⟨w.heap.size, 0, none⟩) 0 0) 0 [] rfl (World.ownsRow_made (base := 0) (e := 5) (size := 1) w #[] 0 (Nat.zero_le _) (by decide) rfl) _ _ _ rfl HSR.out ?_ ?_ ?_)
  · unfold maxLen; omega
  · omega
  intro v' W0 hown hg _ hat
  have hcl := fi_start hn1 HN.out (by simpa using hown) hg (by simpa [Value.ownBlock] using hat)
  obtain ⟨g, c', rfl, ho0, hgw, s0⟩ := hcl
  have O0 := Lib.hid ho0
  have G0 := Lib.hid hgw
  have S0 := Lib.hid s0
  clear hown hg hat ho0 hgw s0
  go_wp2
  go_loopw [12] (fun i wr => ∃ y : Nat, y ≤ H ∧ i = .int .i64 y ∧ Own wr 5 1 (.slice (some ⟨g, 0, none⟩) n c') n (u8s (backTo bs W f (y * W))) ∧ St [g] [g] W0 wr) (fun i _ => H - (intOf i).toNat)
  case atStart => exact ⟨0, by omega, rfl, by rw [Nat.zero_mul]; exact O0.out, St.refl _ _⟩
  case round =>
    obtain ⟨y, hy, rfl, hown, hst⟩ := hrel
    have OY := Lib.hid hown
    have KY := Lib.hid hst
    clear hown hst
    by_cases hyl : y < H
    · obtain ⟨m, hm⟩ : ∃ m, y * W = m := ⟨_, rfl⟩
      have hmn : m + W ≤ n := by
        have h1 := Nat.mul_le_mul_right W hyl
        rw [Nat.succ_mul, hm, ← HNN.out] at h1
        exact h1
      have HM := Lib.hid hm
      clear hm
      obtain ⟨wo, rfl⟩ : ∃ wo : World, wo = wr := ⟨_, rfl⟩
      go_wp2
      go_loopw [13] (fun i wr => ∃ x : Nat, x ≤ W ∧ i = .int .i64 x ∧ Own wr 5 1 (.slice (some ⟨g, 0, none⟩) n c') n (u8s (backTo bs W f (m + x))) ∧ St [g] [g] W0 wr) (fun i _ => W - (intOf i).toNat)
      case atStart => exact ⟨0, by omega, rfl, by rw [← HM.out]; exact OY.out, KY.out⟩
      case round =>
        obtain ⟨x, hx, rfl, hown, hst⟩ := hrel
        have OW := Lib.hid hown
        have KS := Lib.hid hst
        clear hown hst
        by_cases hxl : x < W
        · obtain ⟨k, hk⟩ : ∃ k, m + x = k := ⟨_, rfl⟩
          have hkn : k < n := by omega
          have hmod : k % W = x := by rw [← hk, ← HM.out, Nat.mul_add_mod', Nat.mod_eq_of_lt hxl]
          have hdiv : k / W = y := by rw [← hk, ← HM.out, Nat.add_comm, Nat.add_mul_div_right _ _ (by omega), Nat.div_eq_of_lt hxl, Nat.zero_add]
          obtain ⟨cur, hcur⟩ : ∃ cur, bs.getD k 0 = cur := ⟨_, rfl⟩
          obtain ⟨gs, hgs⟩ : ∃ gs, ag (backTo bs W f k) W f k = gs := ⟨_, rfl⟩
          have hcur8 : cur < 256 := by rw [← hcur]; exact getD_lt bs H8.out k
          have hl8 : ∀ b ∈ (backTo bs W f k), b < 256 := backTo_lt bs W f H8.out k
          have hgs8 : gs < 256 := by rw [← hgs]; exact ag_lt _ W f k hl8
          have hmi : (y : Int) * (W : Int) = (m : Int) := by rw [← HM.out]; exact (Int.natCast_mul y W).symm
          have z0 : IntKind.i64.wrap (m : Int) = (m : Int) := IntWalk.i64_in _ (by omega)
          have z1 : (m : Int) + (x : Int) = (k : Int) := by omega
          have z2 : IntKind.i64.wrap (k : Int) = (k : Int) := IntWalk.i64_in _ (by omega)
          have z3 : IntKind.i64.wrap (cur : Int) = (cur : Int) := IntWalk.i64_in _ (by omega)
          obtain ⟨nv, hnv⟩ : ∃ nv, (cur + gs) % 256 = nv := ⟨_, rfl⟩
          have z4 : IntKind.i64.wrap ((cur : Int) + (gs : Int)) = (cur : Int) + (gs : Int) := IntWalk.i64_in _ (by omega)
          have z5 : IntKind.u8.wrap ((cur : Int) + (gs : Int)) = (nv : Int) := by rw [← hnv]; simp only [IntKind.wrap, IntKind.signed, IntKind.bits]; simp
          have ca : wr.cell? ⟨ab, ao + k, none⟩ = some (.int .u8 cur) := by
            have h1 := HAC.out k (by rw [HN.out]; exact hkn)
            rw [hcur] at h1
            have hg1 := G0.out
            exact (KS.out.cell (p := ⟨ab, ao + k, none⟩) (Nat.lt_of_lt_of_le habl S0.out.size) (by simp; omega)).trans ((S0.out.cell (p := ⟨ab, ao + k, none⟩) habl (by simp)).trans h1)
          have cg : wr.cell? ⟨g, k, none⟩ = some (.int .u8 cur) := by
            have h1 := own_cell OW.out (by rw [backTo_length]; exact HN.out) hkn
            rw [hk, backTo_rest bs W f k k (Nat.le_refl _), hcur] at h1
            exact h1
          have fg : wr.frozen? ⟨g, k, none⟩ = false := own_free OW.out k
          have T1 : ∀ W', St [] [] wr W' → Calls Tryz.prog 20 #[.slice (some ⟨g, 0, none⟩) n c', .int .i64 W, .int .i64 F, .int .i64 x, .int .i64 y] W' (RGPost W' gs) := fun W' kk => by
            have h1 := rguess_calls W' (some ⟨g, 0, none⟩) n c' (backTo bs W f k) W f x y m F x y HFF.out rfl rfl ((by have h2 := Rd.of_own OW.out; rw [hk] at h2; exact h2.keep kk (Off.nil _))) (by rw [backTo_length]; exact HN.out) hl8 hf HM.out (by omega) (by omega) (by omega)
            rw [← hgs]
            unfold ag
            rw [hmod, hdiv]
            exact h1
          have U1 := Lib.hid T1
          have HC := Lib.hid hcur
          have HGS := Lib.hid hgs
          have HNV := Lib.hid hnv
          have HK := Lib.hid hk
          clear T1 hcur hgs hnv hmod hdiv hk hl8
          go_wp2_with fail
          refine wp_region_last 24 (fun w' => w'.cell? ⟨ab, ao + k, none⟩ = some (.int .u8 cur) ∧ w'.cell? ⟨g, k, none⟩ = some (.int .u8 cur) ∧ w'.frozen? ⟨g, k, none⟩ = false ∧ St [] [] wr w')
            (by kernel_rfl) ⟨ca, cg, fg, (St.refl [] wr).drew⟩ (fun hS0 => ?_)
          refine AnyT.take (i := 0) (v := ?_) rfl (by kernel_rfl) (fun _ _ _ h => h) (Or.inl ⟨by rfl, ?_⟩) (by assumption) ?_
          rotate_left
          · (intro w' hSw; (try dsimp only at hSw); go_split_ands; go_simp; try with_reducible rfl)
          try simp only [Act.put, List.setIfInBounds_toArray, List.set_cons_zero, List.set_cons_succ]
          refine AnyT.take (i := 1) (v := ?_) rfl (by kernel_rfl) (fun _ _ _ h => h) (Or.inl ⟨by rfl, ?_⟩) (by assumption) ?_
          rotate_left
          · (intro w' hSw; (try dsimp only at hSw); go_split_ands; go_simp; try with_reducible rfl)
          try simp only [Act.put, List.setIfInBounds_toArray, List.set_cons_zero, List.set_cons_succ]
          refine AnyT.take (i := 2) (v := ?_) rfl (by kernel_rfl) (fun _ _ _ h => h) (Or.inl ⟨by rfl, ?_⟩) (by assumption) ?_
          rotate_left
          · (intro w' hSw; (try dsimp only at hSw); go_split_ands; go_simp; try with_reducible rfl)
          try simp only [Act.put, List.setIfInBounds_toArray, List.set_cons_zero, List.set_cons_succ]
          refine AnyT.take (i := 3) (v := ?_) rfl (by kernel_rfl) (fun _ _ _ h => h) (Or.inl ⟨by rfl, ?_⟩) (by assumption) ?_
          rotate_left
          · (intro w' hSw; (try dsimp only at hSw); go_split_ands; go_simp; try with_reducible rfl)
          try simp only [Act.put, List.setIfInBounds_toArray, List.set_cons_zero, List.set_cons_succ]
          refine AnyT.take (i := 4) (v := ?_) rfl (by kernel_rfl) (fun _ _ _ h => h) (Or.inl ⟨by rfl, ?_⟩) (by assumption) ?_
          rotate_left
          · (intro w' hSw; (try dsimp only at hSw); go_split_ands; go_simp; try with_reducible rfl)
          try simp only [Act.put, List.setIfInBounds_toArray, List.set_cons_zero, List.set_cons_succ]
          refine AnyT.take (i := 5) (v := ?_) rfl (by kernel_rfl) (fun _ _ _ h => h) (Or.inl ⟨by rfl, ?_⟩) (by assumption) ?_
          rotate_left
          · (intro w' hSw; (try dsimp only at hSw); go_split_ands; go_simp; try with_reducible rfl)
          try simp only [Act.put, List.setIfInBounds_toArray, List.set_cons_zero, List.set_cons_succ]
          refine AnyT.take (i := 6) (v := ?_) rfl (by kernel_rfl) (fun _ _ _ h => h) (Or.inl ⟨by rfl, ?_⟩) (by assumption) ?_
          rotate_left
          · (intro w' hSw; (try dsimp only at hSw); go_split_ands; go_simp; try with_reducible rfl)
          try simp only [Act.put, List.setIfInBounds_toArray, List.set_cons_zero, List.set_cons_succ]
          refine AnyT.take (i := 7) (v := ?_) rfl (by kernel_rfl) (fun _ _ _ h => h) (Or.inl ⟨by rfl, ?_⟩) (by assumption) ?_
          rotate_left
          · (intro w' hSw; (try dsimp only at hSw); go_split_ands; go_simp; try with_reducible rfl)
          try simp only [Act.put, List.setIfInBounds_toArray, List.set_cons_zero, List.set_cons_succ]
          refine AnyT.take (i := 8) (v := ?_) rfl (by kernel_rfl) (fun _ _ _ h => h) (Or.inl ⟨by rfl, ?_⟩) (by assumption) ?_
          rotate_left
          · (intro w' hSw; (try dsimp only at hSw); go_split_ands; go_simp; try with_reducible rfl)
          try simp only [Act.put, List.setIfInBounds_toArray, List.set_cons_zero, List.set_cons_succ]
          refine AnyT.take (i := 9) (v := ?_) rfl (by kernel_rfl) (fun _ _ _ h => h) (Or.inl ⟨by rfl, ?_⟩) (by assumption) ?_
          rotate_left
          · (intro w' hSw; (try dsimp only at hSw); go_split_ands; go_simp; try with_reducible rfl)
          try simp only [Act.put, List.setIfInBounds_toArray, List.set_cons_zero, List.set_cons_succ]
          refine AnyT.take (i := 10) (v := ?_) rfl (by kernel_rfl) (fun _ _ _ h => h) (Or.inl ⟨by rfl, ?_⟩) (by assumption) ?_
          rotate_left
          · (intro w' hSw; (try dsimp only at hSw); go_split_ands; go_simp; try with_reducible rfl)
          try simp only [Act.put, List.setIfInBounds_toArray, List.set_cons_zero, List.set_cons_succ]
          refine AnyT.take (i := 11) (v := ?_) rfl (by kernel_rfl) (fun _ _ _ h => h) (Or.inl ⟨by rfl, ?_⟩) (by assumption) ?_
          rotate_left
          · (intro w' hSw; (try dsimp only at hSw); go_split_ands; go_simp; try with_reducible rfl)
          try simp only [Act.put, List.setIfInBounds_toArray, List.set_cons_zero, List.set_cons_succ]
          refine AnyT.take (i := 12) (v := ?_) rfl (by kernel_rfl) (fun _ _ _ h => h) (Or.inl ⟨by rfl, ?_⟩) (by assumption) ?_
          rotate_left
          · (intro w' hSw; (try dsimp only at hSw); go_split_ands; go_simp; try with_reducible rfl)
          try simp only [Act.put, List.setIfInBounds_toArray, List.set_cons_zero, List.set_cons_succ]
          refine AnyT.take (i := 13) (v := ?_) rfl (by kernel_rfl) (fun _ _ _ h => h) (Or.inl ⟨by rfl, ?_⟩) (by assumption) ?_
          rotate_left
          · (intro w' hSw; (try dsimp only at hSw); go_split_ands; go_simp; try with_reducible rfl)
          try simp only [Act.put, List.setIfInBounds_toArray, List.set_cons_zero, List.set_cons_succ]
          refine AnyT.take (i := 14) (v := ?_) rfl (by kernel_rfl) (fun _ _ _ h => h) (Or.inl ⟨by rfl, ?_⟩) (by assumption) ?_
          rotate_left
          · (intro w' hSw; (try dsimp only at hSw); go_split_ands; go_simp; try with_reducible rfl)
          try simp only [Act.put, List.setIfInBounds_toArray, List.set_cons_zero, List.set_cons_succ]
          refine AnyT.take (i := 15) (v := ?_) rfl (by kernel_rfl) (fun _ _ _ h => h) (Or.inl ⟨by rfl, ?_⟩) (by assumption) ?_
          rotate_left
          · (intro w' hSw; (try dsimp only at hSw); go_split_ands; go_simp; try with_reducible rfl)
          try simp only [Act.put, List.setIfInBounds_toArray, List.set_cons_zero, List.set_cons_succ]
          refine AnyT.take (i := 16) (v := ?_) rfl (by kernel_rfl) (fun _ _ _ h => h) (Or.inl ⟨by rfl, ?_⟩) (by assumption) ?_
          rotate_left
          · (intro w' hSw; (try dsimp only at hSw); go_split_ands; go_simp; try with_reducible rfl)
          try simp only [Act.put, List.setIfInBounds_toArray, List.set_cons_zero, List.set_cons_succ]
          refine AnyT.take (i := 17) (v := ?_) rfl (by kernel_rfl) (fun _ _ _ h => h) (Or.inl ⟨by rfl, ?_⟩) (by assumption) ?_
          rotate_left
          · (intro w' hSw; (try dsimp only at hSw); go_split_ands; go_simp; try with_reducible rfl)
          try simp only [Act.put, List.setIfInBounds_toArray, List.set_cons_zero, List.set_cons_succ]
          refine AnyT.take (i := 18) (v := ?_) rfl (by kernel_rfl) (fun _ _ _ h => h) (Or.inl ⟨by rfl, ?_⟩) (by assumption) ?_
          rotate_left
          · (intro w' hSw; (try dsimp only at hSw); go_split_ands; go_simp; try with_reducible rfl)
          try simp only [Act.put, List.setIfInBounds_toArray, List.set_cons_zero, List.set_cons_succ]
          refine AnyT.take (i := 19) (v := ?_) rfl (by kernel_rfl) (fun _ _ _ h => h) (Or.inl ⟨by rfl, ?_⟩) (by assumption) ?_
          rotate_left
          · (intro w' hSw; (try dsimp only at hSw); go_split_ands; go_simp; try with_reducible rfl)
          try simp only [Act.put, List.setIfInBounds_toArray, List.set_cons_zero, List.set_cons_succ]
          refine AnyT.one (i := 20) rfl (by kernel_rfl) (by decide) (fun K hK => ?_)
          go_simp
          go_at_call 20
          refine Calls.mono (U1.out _ (St.refl [] wr).drew) ?_
          intro e w1 hq
          obtain ⟨rfl, mm, rfl⟩ := hq
          have hS1 : (wr.drew.drewN mm).cell? ⟨ab, ao + k, none⟩ = some (.int .u8 cur) ∧ (wr.drew.drewN mm).cell? ⟨g, k, none⟩ = some (.int .u8 cur) ∧ (wr.drew.drewN mm).frozen? ⟨g, k, none⟩ = false ∧ St [] [] wr (wr.drew.drewN mm) := ⟨ca, cg, fg, ((St.refl [] wr).drew).drewN mm⟩
          refine hK _ _ hS1 ?_
          try simp only [Act.put, List.setIfInBounds_toArray, List.set_cons_zero, List.set_cons_succ]
          refine AnyT.take (i := 21) (v := ?_) rfl (by kernel_rfl) (fun _ _ _ h => h) (Or.inl ⟨by rfl, ?_⟩) (by assumption) ?_
          rotate_left
          · (intro w' hSw; (try dsimp only at hSw); go_split_ands; go_simp; try with_reducible rfl)
          try simp only [Act.put, List.setIfInBounds_toArray, List.set_cons_zero, List.set_cons_succ]
          refine AnyT.take (i := 22) (v := ?_) rfl (by kernel_rfl) (fun _ _ _ h => h) (Or.inl ⟨by rfl, ?_⟩) (by assumption) ?_
          rotate_left
          · (intro w' hSw; (try dsimp only at hSw); go_split_ands; go_simp; try with_reducible rfl)
          try simp only [Act.put, List.setIfInBounds_toArray, List.set_cons_zero, List.set_cons_succ]
          refine AnyT.take (i := 23) (v := ?_) rfl (by kernel_rfl) (fun _ _ _ h => h) (Or.inl ⟨by rfl, ?_⟩) (by assumption) ?_
          rotate_left
          · (intro w' hSw; (try dsimp only at hSw); go_split_ands; go_simp; try with_reducible rfl)
          try simp only [Act.put, List.setIfInBounds_toArray, List.set_cons_zero, List.set_cons_succ]
          refine AnyT.last (n := 24) rfl (by kernel_rfl) (by kernel_rfl) ?_
          go_split_ands
          go_simp
          go_wp2
          case roundEnd =>
            refine ⟨⟨x + 1, by omega, rfl, ?_, ?_⟩, ?_⟩
            · have hs := Own.store (OW.out.keep ((St.refl [] wr).drewN (1 + mm)) (by simp)) k (.int .u8 nv) hkn
              have e : (u8s (backTo bs W f k)).set k (.int .u8 (nv : Int)) = u8s (backTo bs W f (k + 1)) := by
                rw [backTo, HC.out, HGS.out, HNV.out]
                simp [u8s, List.map_set]
              rw [HK.out, e] at hs
              rw [show m + (x + 1) = k + 1 by have := HK.out; omega]
              exact hs
            · exact KS.out.trans (((St.refl [g] wr).drewN (1 + mm)).setCell (p := ⟨g, k, none⟩) (by simp) _)
            · show W - ((x : Int) + 1).toNat < W - (x : Int).toNat
              omega
        · obtain rfl : x = W := by omega
          go_wp2
          case roundEnd =>
            refine ⟨⟨y + 1, by omega, rfl, ?_, KS.out⟩, ?_⟩
            · rw [Nat.succ_mul, HM.out]
              exact OW.out
            · show H - ((y : Int) + 1).toNat < H - (y : Int).toNat
              omega
    · obtain rfl : y = H := by omega
      go_wp2
      go_ret
      refine ⟨g, c', rfl, ?_, S0.out.trans KY.out⟩
      have := OY.out
      rw [← HNN.out, ← HN.out] at this
      unfold backL
      rw [HN.out] at this ⊢
      exact this

end Go.Proofs.YtfegklafpjdemaaGreatDoor
