/- Alpha planes: copies of bytes; Forth and Back. -/
import Derived.Test.YtfegklafpjdemaaGreatDoorAlphaQ
import Derived.Test.YtfegklafpjdemaaGreatDoorReg
import Derived.WalkSpells
set_option linter.unusedVariables false
set_option linter.unusedSimpArgs false
namespace Go.Proofs.YtfegklafpjdemaaGreatDoor
open Go.RowKit Go Go.Proofs.YtfegklafpjdemaaGreatDoorW Mq

def ClonePost (w : World) (bs : List Nat) (e : Ending) (w' : World) : Prop :=
  ∃ g c', e = .returned (.slice (some ⟨g, 0, none⟩) bs.length c') ∧ Own w' 5 1 (.slice (some ⟨g, 0, none⟩) bs.length c') bs.length (u8s bs) ∧ w.heap.size ≤ g ∧ St [] [g] w w'
theorem own_some {w : World} {e : TypeId} {n : Nat} {v : Value} {xs : List Value} (h : Own w e 1 v n xs) (hn : 0 < n) : ∃ g c, v = .slice (some ⟨g, 0, none⟩) n c := by
  rcases h.2 with ⟨_, h0⟩ | ⟨g, cap, cur, h1, _⟩
  · omega
  · exact ⟨g, cap, h1⟩
theorem clone_post {w w1 : World} {bs : List Nat} {v' : Value} (hne : 0 < bs.length) (hown : Own w1 5 1 v' bs.length (u8s bs)) (hg : (w.alloc (.cells #[] 5)).grownBy w1 (some w.heap.size))
    (hat : v'.ownBlock = some w.heap.size ∨ v'.ownBlock = some (w.heap.size + 1)) : ClonePost w bs (.returned v') w1 := by
  obtain ⟨g, c, rfl⟩ := own_some hown hne
  have hgg : g = w.heap.size ∨ g = w.heap.size + 1 := by simpa [Value.ownBlock] using hat
  refine ⟨g, c, rfl, hown, by omega, ?_⟩
  have s1 : St [] [w.heap.size] w (w.alloc (.cells #[] 5)) := (St.refl [] w).allocTo _
  have s2 := St.grown (v := .slice (some ⟨w.heap.size, 0, none⟩) 0 0) (v' := .slice (some ⟨g, 0, none⟩) bs.length c) s1 hg (by intro k hk; simp [Value.ownBlock] at hk; simp [hk]) (by simpa [Value.ownBlock, World.size_alloc] using hgg)
  exact s2.less (by intro k hk; simp [Value.ownBlock] at hk ⊢; omega)
theorem bclone_calls (w : World) (A : Option Addr) (n c : Nat) (bs : List Nat) (h : Rd w A (u8s bs)) (hn : bs.length = n) (hne : 0 < n) (hl : n ≤ 140737488355328) :
    Calls Tryz.prog 18 #[.slice A n c] w (ClonePost w bs) := by
  subst hn
  obtain ⟨b, o, rfl, hb, _⟩ := rd_u8 h hne
  have hsrc : Src Tryz.prog 1 22 (.slice (some ⟨b, o, none⟩) bs.length c) bs.length (u8s bs) (w.alloc (.cells #[] 5)) := Src.ofRd Tryz.underlying22 _ bs.length c _ (by rw [u8s_length, Nat.mul_one]) (by decide) (h.keep ((St.refl [] w).alloc _) (Off.nil _)) (u8s_one bs)
  have xe := fun W => Lib.run_eql_slice_nil W 22 _ (some ⟨b, o, none⟩) bs.length c 0 0 Tryz.underlying22
  have H1 := Lib.hid hsrc
  clear hsrc h
  go_enter Tryz.func18, Tryz.ntmps18
  go_wp2_with (at_builtin; refine wpList_app _ rfl _ (.tmp 6) 22 22 rfl 5 (.int .u8 0) 1 1 Tryz.underlying22 Tryz.info5 rfl (by decide) _ _ _ rfl (World.ownsRow_made (base := 0) (e := 5) (size := 1) w #[] 0 (Nat.zero_le _) (by decide) rfl) _ _ _ rfl H1.out ?_ ?_ ?_)
  · unfold maxLen; omega
  · omega
  intro v' w1 hown hg _ hat
  have K1 := Lib.hid hown
  have K2 := Lib.hid hg
  have K3 := Lib.hid hat
  clear hown hg hat
  go_wp2
  go_ret
  exact clone_post hne K1.out K2.out (by simpa [Value.ownBlock, World.size_alloc] using K3.out)
theorem sclone_calls (w : World) (A : Option Addr) (n c : Nat) (bs : List Nat) (h : Rd w A (u8s bs)) (hn : bs.length = n) (hne : 0 < n) (hl : n ≤ 140737488355328) :
    Calls Tryz.prog 45 #[.slice A n c] w (ClonePost w bs) := by
  subst hn
  obtain ⟨b, o, rfl, hb, _⟩ := rd_u8 h hne
  have hsrc : Src Tryz.prog 1 22 (.slice (some ⟨b, o, none⟩) bs.length c) bs.length (u8s bs) (w.alloc (.cells #[] 5)) := Src.ofRd Tryz.underlying22 _ bs.length c _ (by rw [u8s_length, Nat.mul_one]) (by decide) (h.keep ((St.refl [] w).alloc _) (Off.nil _)) (u8s_one bs)
  have xe := fun W => Lib.run_eql_slice_nil W 22 _ (some ⟨b, o, none⟩) bs.length c 0 0 Tryz.underlying22
  have H1 := Lib.hid hsrc
  clear hsrc h
  go_enter Tryz.func45, Tryz.ntmps45
  go_wp2_with (at_builtin; refine wpList_app _ rfl _ (.tmp 6) 22 22 rfl 5 (.int .u8 0) 1 1 Tryz.underlying22 Tryz.info5 rfl (by decide) _ _ _ rfl (World.ownsRow_made (base := 0) (e := 5) (size := 1) w #[] 0 (Nat.zero_le _) (by decide) rfl) _ _ _ rfl H1.out ?_ ?_ ?_)
  · unfold maxLen; omega
  · omega
  intro v' w1 hown hg _ hat
  have K1 := Lib.hid hown
  have K2 := Lib.hid hg
  have K3 := Lib.hid hat
  clear hown hg hat
  go_wp2
  go_ret
  exact clone_post hne K1.out K2.out (by simpa [Value.ownBlock, World.size_alloc] using K3.out)

theorem box4_keep {W1 wc w1 : World} {g k B7 B2 : Nat} {v0 v1 v2 v3 : Value} (h : wc.cell? ⟨g, k, none⟩ = some v0 ∧ wc.frozen? ⟨g, k, none⟩ = false ∧ wc.cell? ⟨B7, 0, none⟩ = some v1 ∧ wc.cell? ⟨B7, 1, none⟩ = some v2 ∧ wc.cell? ⟨B2, 0, none⟩ = some v3 ∧ St [] [] W1 wc)
    (q : St [] [] wc w1) (hg : g < W1.heap.size) (h7 : B7 < W1.heap.size) (h2 : B2 < W1.heap.size) :
    w1.cell? ⟨g, k, none⟩ = some v0 ∧ w1.frozen? ⟨g, k, none⟩ = false ∧ w1.cell? ⟨B7, 0, none⟩ = some v1 ∧ w1.cell? ⟨B7, 1, none⟩ = some v2 ∧ w1.cell? ⟨B2, 0, none⟩ = some v3 ∧ St [] [] W1 w1 := by
  obtain ⟨a, a', b, c, d, e⟩ := h
  have hs := e.size
  exact ⟨(q.cell (p := ⟨g, k, none⟩) (by show g < _; omega) (by simp)).trans a, (q.frozen (p := ⟨g, k, none⟩) (by show g < _; omega) (by simp)).trans a', (q.cell (p := ⟨B7, 0, none⟩) (by show B7 < _; omega) (by simp)).trans b, (q.cell (p := ⟨B7, 1, none⟩) (by show B7 < _; omega) (by simp)).trans c, (q.cell (p := ⟨B2, 0, none⟩) (by show B2 < _; omega) (by simp)).trans d, e.trans q⟩
def FlPost (w : World) (n : Nat) (l : List Nat) (e : Ending) (w' : World) : Prop :=
  ∃ g c', e = .returned (.tuple #[.slice (some ⟨g, 0, none⟩) n c', .bool true]) ∧ Own w' 5 1 (.slice (some ⟨g, 0, none⟩) n c') n (u8s l) ∧ w.heap.size ≤ g ∧ St [] [g] w w'
/-- What stands in the k-th round's head. -/
def FoRel (W0 : World) (g c' n : Nat) (l : Nat → List Nat) (i : Value) (wr : World) : Prop :=
  ∃ k : Nat, k ≤ n ∧ i = .int .i64 k ∧ Own wr 5 1 (.slice (some ⟨g, 0, none⟩) n c') n (u8s (l k)) ∧ St [g] [g] W0 wr
theorem own_cell {w : World} {g n c : Nat} {l : List Nat} {k : Nat} (h : Own w 5 1 (.slice (some ⟨g, 0, none⟩) n c) n (u8s l)) (hl : l.length = n) (hk : k < n) : w.cell? ⟨g, k, none⟩ = some (.int .u8 (l.getD k 0 : Nat)) := by
  rcases h.2 with ⟨h0, _⟩ | ⟨g', cap, cur, h1, h2, h3, h4, h5, h6, h7⟩
  · cases h0
  · injection h1 with h1 h1' h1''
    injection h1 with h1
    injection h1 with h1
    subst h1
    rw [blk_cell h3 k, ← Array.getElem?_toList]
    have e : (u8s l)[k]? = some (.int .u8 (l.getD k 0 : Nat)) := by simp [u8s, hl, hk]
    rw [← h7, List.getElem?_take] at e
    rw [if_pos (by omega)] at e
    exact e
theorem own_free {w : World} {g n c : Nat} {xs : List Value} (h : Own w 5 1 (.slice (some ⟨g, 0, none⟩) n c) n xs) (k : Nat) : w.frozen? ⟨g, k, none⟩ = false := by
  rcases h.2 with ⟨h0, _⟩ | ⟨g', cap, cur, h1, h2, h3, h4, h5, h6, h7⟩
  · cases h0
  · injection h1 with h1 h1' h1''
    injection h1 with h1
    injection h1 with h1
    subst h1
    exact blk_free h3 k
theorem own_blk {w : World} {g n c : Nat} {xs : List Value} (h : Own w 5 1 (.slice (some ⟨g, 0, none⟩) n c) n xs) : g < w.heap.size := (World.ownsRow.lt h g rfl).2
set_option maxHeartbeats 2000000 in
set_option maxRecDepth 8000 in
theorem forth_good (w : World) (W : Nat) (H : Int) (A : Option Addr) (n c : Nat) (bs : List Nat) (f : Nat) (F : Int) (hF : F = f) (hf : f ≤ 3) (hgood : goodB W H n = true) (h : Rd w A (u8s bs)) (hn : bs.length = n) (h8 : ∀ b ∈ bs, b < 256) :
    Calls Tryz.prog 8 #[.agg #[.int .i64 W, .int .i64 H, .slice A n c], .int .i64 F] w (FlPost w n (forthL bs W f)) := by
  obtain ⟨hW, hH, hnn⟩ := goodB_true hgood
  have hpl := prod_le hW hH
  rw [← hnn] at hpl
  have hn1 : 0 < n := by omega
  have hn2 : n ≤ 268435456 := by omega
  have hW1 : 0 < W := by omega
  have hW2 : W ≤ 16384 := by omega
  have hfb : filtB F = true := by unfold filtB; simp; omega
  have HG := Lib.hid hgood
  have HB := Lib.hid hfb
  have HR := Lib.hid h
  have HN := Lib.hid hn
  have H8 := Lib.hid h8
  have HFF := Lib.hid hF
  clear hgood hfb h hn h8 hF hW hH hnn hpl
  go_enter Tryz.func8, Tryz.ntmps8
  go_wp2_with (first
    | (go_at_call 16; refine (good_calls _ _ _ _ _ _).mono ?_; rintro e w1 ⟨rfl, hst⟩; rw [HG.out]; have hb1 := blk_st hst (by simp) (blk_new w _); have c0 := blk_cell hb1 0; have c2 := blk_cell hb1 2; simp at c0 c2; have K1 := Lib.hid hst; have B1 := Lib.hid hb1; clear hst hb1)
    | (go_at_call 17; refine (filter_calls _ _).mono ?_; rintro e w' ⟨rfl, rfl⟩; rw [HB.out])
    | (go_at_call 18; refine (bclone_calls _ A n c bs ((HR.out.keep ((St.refl [] w).alloc _) (Off.nil _)).keep K1.out (Off.nil _)) HN.out hn1 (by omega)).mono ?_; rintro e w2 ⟨g, c', rfl, hown, hg, hst⟩; rw [HN.out] at hown; rw [HN.out]; have hb2 := blk_st hst (by simp) B1.out; have c0 := blk_cell hb2 0; have c2 := blk_cell hb2 2; simp at c0 c2; have K2 := Lib.hid hst; have B2 := Lib.hid hb2; have O2 := Lib.hid hown; have G2 := Lib.hid hg; clear hst hb2 hown hg))
  obtain ⟨W0, hW0⟩ : ∃ W0, w2.alloc (.cells #[.int .i64 W, .slice A n c] 44) = W0 := ⟨_, rfl⟩
  have hg0 : g < w2.heap.size := own_blk O2.out
  have hgw : w.heap.size + 1 ≤ g := by have h1 := G2.out; have h2 := K1.out.size; rw [World.size_alloc] at h2; omega
  have hb7 : W0.heap[w2.heap.size]? = some (.cells #[.int .i64 W, .slice A n c] 44 (0, 0)) := by rw [← hW0]; exact blk_new w2 _
  have hb2 : W0.heap[w.heap.size]? = some (.cells #[.int .i64 W, .int .i64 H, .slice A n c] 24 (0, 0)) := by rw [← hW0]; exact blk_old B2.out _
  have ho0 : Own W0 5 1 (.slice (some ⟨g, 0, none⟩) n c') n (u8s bs) := by rw [← hW0]; exact World.ownsRow.alloc O2.out _
  have s0 : St [] [g] w W0 := by rw [← hW0]; exact ((((St.refl [] w).alloc _).trans K1.out).trans K2.out).alloc _
  have hr0 : Rd W0 A (u8s bs) := HR.out.keep s0 (Off.nil _)
  rw [hW0]
  have B7 := Lib.hid hb7
  have B3 := Lib.hid hb2
  have O0 := Lib.hid ho0
  have S0 := Lib.hid s0
  have R0 := Lib.hid hr0
  clear hW0 hb7 hb2 ho0 s0 hr0
  go_loopw [27] (fun i wr => FoRel W0 g c' n (forthTo bs W f) i wr) (fun i _ => n - (intOf i).toNat)
  case atStart => exact ⟨0, by omega, rfl, O0.out, St.refl _ _⟩
  case round =>
    obtain ⟨k, hk, rfl, hown, hst⟩ := hrel
    have OW := Lib.hid hown
    have KS := Lib.hid hst
    clear hown hst
    by_cases hlt : k < n
    · obtain ⟨x, hx⟩ : ∃ x, k % W = x := ⟨_, rfl⟩
      obtain ⟨y, hy⟩ : ∃ y, k / W = y := ⟨_, rfl⟩
      obtain ⟨cur, hcur⟩ : ∃ cur, bs.getD k 0 = cur := ⟨_, rfl⟩
      obtain ⟨gs, hgs⟩ : ∃ gs, ag bs W f k = gs := ⟨_, rfl⟩
      have hcur8 : cur < 256 := by rw [← hcur]; exact getD_lt bs H8.out k
      have hgs8 : gs < 256 := by rw [← hgs]; exact ag_lt bs W f k H8.out
      have hkk : y * W + x = k := by rw [← hx, ← hy, Nat.mul_comm]; exact Nat.div_add_mod k W
      have hyk : y ≤ k := by rw [← hy]; exact Nat.div_le_self k W
      have hxk : x ≤ k := by rw [← hx]; exact Nat.mod_le k W
      have z1 : (k : Int).tmod (W : Int) = (x : Int) := by rw [← hx]; rfl
      have z2 : (k : Int).tdiv (W : Int) = (y : Int) := by rw [← hy]; rfl
      have z3 : (k : Int) % (W : Int) = (x : Int) := by rw [← hx]; rfl
      have z4 : (k : Int) / (W : Int) = (y : Int) := by rw [← hy]; rfl
      have z6 : IntKind.i64.wrap (y : Int) = (y : Int) := IntWalk.i64_in _ (by omega)
      obtain ⟨nv, hnv⟩ : ∃ nv, (cur + 256 - gs) % 256 = nv := ⟨_, rfl⟩
      have z5 : IntKind.u8.wrap ((cur : Int) - (gs : Int)) = (nv : Int) := by rw [← hnv]; simp only [IntKind.wrap, IntKind.signed, IntKind.bits]; simp; omega
      have cg : wr.cell? ⟨g, k, none⟩ = some (.int .u8 cur) := by
        have := own_cell OW.out (by rw [forthTo_length]; exact HN.out) hlt
        rw [forthTo_get, if_neg (by omega), hcur] at this
        exact this
      have fg : wr.frozen? ⟨g, k, none⟩ = false := own_free OW.out k
      have q7 := blk_st KS.out (by simp; omega) B7.out
      have q2 := blk_st KS.out (by simp; omega) B3.out
      have c70 := (blk_cell q7 0)
      have c71 := (blk_cell q7 1)
      have c20 := (blk_cell q2 0)
      simp at c70 c71 c20
      have hgl := own_blk OW.out
      have lw7 := blk_lt q7
      have lw2 := blk_lt q2
      have T1 : ∀ W', St [] [] wr W' → Calls Tryz.prog 19 #[.agg #[.int .i64 W, .slice A n c], .int .i64 F, .int .i64 x, .int .i64 y] W' (GPost W' gs) := fun W' kk => by
        have h1 := guess_calls W' A n c bs W f x y F x y HFF.out rfl rfl ((R0.out.keep KS.out (by
          intro a ha
          have hr := R0.out
          rcases HR.out with hh | ⟨b, o, hA, hb, _⟩
          · have := HN.out; have h3 := u8s_length bs; rw [hh] at h3; simp at h3; omega
          · rw [hA] at ha; injection ha with ha; subst ha; simp; omega)).keep kk (Off.nil _)) HN.out H8.out hf (by omega) (by omega) (by omega) (by omega) (by omega)
        rw [← hgs]
        unfold ag
        rw [hx, hy]
        exact h1
      have U1 := Lib.hid T1
      have Q7 := Lib.hid q7
      have Q2 := Lib.hid q2
      have HC := Lib.hid hcur
      have HGS := Lib.hid hgs
      have HNV := Lib.hid hnv
      clear T1 hx hy hcur hgs hnv hkk q7 q2
      go_wp2_with fail
      have hw0 : ¬ W = 0 := by omega
      refine wp_region_last 17 (fun w' => w'.cell? ⟨g, k, none⟩ = some (.int .u8 cur) ∧ w'.frozen? ⟨g, k, none⟩ = false ∧ w'.cell? ⟨w2.heap.size, 0, none⟩ = some (.int .i64 W) ∧ w'.cell? ⟨w2.heap.size, 1, none⟩ = some (.slice A n c) ∧ w'.cell? ⟨w.heap.size, 0, none⟩ = some (.int .i64 W) ∧ St [] [] wr w')
        (by kernel_rfl) ⟨cg, fg, c70, c71, c20, (St.refl [] wr).drew⟩ (fun hS0 => ?_)
      refine AnyT.take (i := 0) (v := ?_) rfl (by kernel_rfl) (fun _ _ _ h => h) (Or.inl ⟨by rfl, ?_⟩) (by assumption) ?_
      rotate_left
      · (intro w' hSw; (try dsimp only at hSw); go_split_ands; go_simp; try with_reducible rfl)
      try simp only [Act.put, List.setIfInBounds_toArray, List.set_cons_zero, List.set_cons_succ]
      refine AnyT.take (i := 1) (v := ?_) rfl (by kernel_rfl) (fun _ _ _ h => h) (Or.inl ⟨by rfl, ?_⟩) (by assumption) ?_
      rotate_left
      · (intro w' hSw; (try dsimp only at hSw); go_split_ands; go_simp; try with_reducible rfl)
      try simp only [Act.put, List.setIfInBounds_toArray, List.set_cons_zero, List.set_cons_succ]
      refine AnyT.take (i := 2) (v := ?_) rfl (by kernel_rfl) (fun _ _ _ h => h) (Or.inl ⟨by rfl, ?_⟩) (by assumption) ?_
      rotate_left
      · (intro w' hSw; (try dsimp only at hSw); go_split_ands; go_simp; try with_reducible rfl)
      try simp only [Act.put, List.setIfInBounds_toArray, List.set_cons_zero, List.set_cons_succ]
      refine AnyT.take (i := 3) (v := ?_) rfl (by kernel_rfl) (fun _ _ _ h => h) (Or.inl ⟨by rfl, ?_⟩) (by assumption) ?_
      rotate_left
      · (intro w' hSw; (try dsimp only at hSw); go_split_ands; go_simp; try with_reducible rfl)
      try simp only [Act.put, List.setIfInBounds_toArray, List.set_cons_zero, List.set_cons_succ]
      refine AnyT.take (i := 4) (v := ?_) rfl (by kernel_rfl) (fun _ _ _ h => h) (Or.inl ⟨by rfl, ?_⟩) (by assumption) ?_
      rotate_left
      · (intro w' hSw; (try dsimp only at hSw); go_split_ands; go_simp; try with_reducible rfl)
      try simp only [Act.put, List.setIfInBounds_toArray, List.set_cons_zero, List.set_cons_succ]
      refine AnyT.take (i := 5) (v := ?_) rfl (by kernel_rfl) (fun _ _ _ h => h) (Or.inl ⟨by rfl, ?_⟩) (by assumption) ?_
      rotate_left
      · (intro w' hSw; (try dsimp only at hSw); go_split_ands; go_simp; try with_reducible rfl)
      try simp only [Act.put, List.setIfInBounds_toArray, List.set_cons_zero, List.set_cons_succ]
      refine AnyT.take (i := 6) (v := ?_) rfl (by kernel_rfl) (fun _ _ _ h => h) (Or.inl ⟨by rfl, ?_⟩) (by assumption) ?_
      rotate_left
      · (intro w' hSw; (try dsimp only at hSw); go_split_ands; go_simp; try with_reducible rfl)
      try simp only [Act.put, List.setIfInBounds_toArray, List.set_cons_zero, List.set_cons_succ]
      refine AnyT.take (i := 7) (v := ?_) rfl (by kernel_rfl) (fun _ _ _ h => h) (Or.inl ⟨by rfl, ?_⟩) (by assumption) ?_
      rotate_left
      · (intro w' hSw; (try dsimp only at hSw); go_split_ands; go_simp; try with_reducible rfl)
      try simp only [Act.put, List.setIfInBounds_toArray, List.set_cons_zero, List.set_cons_succ]
      refine AnyT.take (i := 8) (v := ?_) rfl (by kernel_rfl) (fun _ _ _ h => h) (Or.inl ⟨by rfl, ?_⟩) (by assumption) ?_
      rotate_left
      · (intro w' hSw; (try dsimp only at hSw); go_split_ands; go_simp; try with_reducible rfl)
      try simp only [Act.put, List.setIfInBounds_toArray, List.set_cons_zero, List.set_cons_succ]
      refine AnyT.take (i := 9) (v := ?_) rfl (by kernel_rfl) (fun _ _ _ h => h) (Or.inl ⟨by rfl, ?_⟩) (by assumption) ?_
      rotate_left
      · (intro w' hSw; (try dsimp only at hSw); go_split_ands; go_simp; try with_reducible rfl)
      try simp only [Act.put, List.setIfInBounds_toArray, List.set_cons_zero, List.set_cons_succ]
      refine AnyT.take (i := 10) (v := ?_) rfl (by kernel_rfl) (fun _ _ _ h => h) (Or.inl ⟨by rfl, ?_⟩) (by assumption) ?_
      rotate_left
      · (intro w' hSw; (try dsimp only at hSw); go_split_ands; go_simp; try with_reducible rfl)
      try simp only [Act.put, List.setIfInBounds_toArray, List.set_cons_zero, List.set_cons_succ]
      refine AnyT.take (i := 11) (v := ?_) rfl (by kernel_rfl) (fun _ _ _ h => h) (Or.inl ⟨by rfl, ?_⟩) (by assumption) ?_
      rotate_left
      · (intro w' hSw; (try dsimp only at hSw); go_split_ands; go_simp; try with_reducible rfl)
      try simp only [Act.put, List.setIfInBounds_toArray, List.set_cons_zero, List.set_cons_succ]
      refine AnyT.take (i := 12) (v := ?_) rfl (by kernel_rfl) (fun _ _ _ h => h) (Or.inl ⟨by rfl, ?_⟩) (by assumption) ?_
      rotate_left
      · (intro w' hSw; (try dsimp only at hSw); go_split_ands; go_simp; try with_reducible rfl)
      try simp only [Act.put, List.setIfInBounds_toArray, List.set_cons_zero, List.set_cons_succ]
      refine AnyT.take (i := 13) (v := ?_) rfl (by kernel_rfl) (fun _ _ _ h => h) (Or.inl ⟨by rfl, ?_⟩) (by assumption) ?_
      rotate_left
      · (intro w' hSw; (try dsimp only at hSw); go_split_ands; go_simp; try with_reducible rfl)
      try simp only [Act.put, List.setIfInBounds_toArray, List.set_cons_zero, List.set_cons_succ]
      refine AnyT.one (i := 14) rfl (by kernel_rfl) (by decide) (fun K hK => ?_)
      go_simp
      go_at_call 19
      refine Calls.mono (U1.out _ (St.refl [] wr).drew) ?_
      intro e w1 hq
      obtain ⟨rfl, hst⟩ := hq
      have hS1 := box4_keep hS0 hst hgl lw7 lw2
      have HS1 := Lib.hid hS1.2.2.2.2.2
      refine hK _ _ hS1 ?_
      try simp only [Act.put, List.setIfInBounds_toArray, List.set_cons_zero, List.set_cons_succ]
      refine AnyT.take (i := 15) (v := ?_) rfl (by kernel_rfl) (fun _ _ _ h => h) (Or.inl ⟨by rfl, ?_⟩) (by assumption) ?_
      rotate_left
      · (intro w' hSw; (try dsimp only at hSw); go_split_ands; go_simp; try with_reducible rfl)
      try simp only [Act.put, List.setIfInBounds_toArray, List.set_cons_zero, List.set_cons_succ]
      refine AnyT.take (i := 16) (v := ?_) rfl (by kernel_rfl) (fun _ _ _ h => h) (Or.inl ⟨by rfl, ?_⟩) (by assumption) ?_
      rotate_left
      · (intro w' hSw; (try dsimp only at hSw); go_split_ands; go_simp; try with_reducible rfl)
      try simp only [Act.put, List.setIfInBounds_toArray, List.set_cons_zero, List.set_cons_succ]
      refine AnyT.last (n := 17) rfl (by kernel_rfl) (by kernel_rfl) ?_
      go_split_ands
      go_simp
      go_wp2
      case roundEnd =>
        refine ⟨⟨k + 1, by omega, rfl, ?_, ?_⟩, ?_⟩
        · have hs := Own.store (OW.out.keep HS1.out (by simp)) k (.int .u8 nv) hlt
          have e : (u8s (forthTo bs W f k)).set k (.int .u8 (nv : Int)) = u8s (forthTo bs W f (k + 1)) := by
            rw [forthTo, HC.out, HGS.out, HNV.out]
            simp [u8s, List.map_set]
          rw [e] at hs
          exact hs
        · exact KS.out.trans ((HS1.out.beside [g]).trans ((St.refl [g] w1).setCell (p := ⟨g, k, none⟩) (by simp) _)) 
        · show n - ((k : Int) + 1).toNat < n - (k : Int).toNat
          omega
    · obtain rfl : k = n := by omega
      go_wp2
      go_ret2
      refine ⟨g, c', rfl, ?_, by omega, S0.out.trans KS.out⟩
      have := OW.out
      unfold forthL
      rw [HN.out]
      exact this
end Go.Proofs.YtfegklafpjdemaaGreatDoor
