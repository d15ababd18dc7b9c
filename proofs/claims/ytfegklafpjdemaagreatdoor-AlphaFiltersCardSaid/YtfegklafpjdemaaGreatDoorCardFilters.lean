/- AlphaFilters proved: for every plane and filter the law answers true, and what came in reads as before; the card's listed variables are tied to the program's text. No further conditions. -/
import Derived.Test.YtfegklafpjdemaaGreatDoorCards
import Derived.Test.YtfegklafpjdemaaGreatDoorTie
import Derived.Test.YtfegklafpjdemaaGreatDoorAlphaL
import Derived.Test.YtfegklafpjdemaaGreatDoorOpen
import Derived.LaidMore
import Derived.Lay
import Derived.SevenTiedAt
import Derived.Stop.Joined
import Derived.Lib.SmallJoins
import Derived.Test.YtfegklafpjdemaaGreatDoorFaA
import Derived.Test.YtfegklafpjdemaaGreatDoorFaB
import Derived.Test.YtfegklafpjdemaaGreatDoorFaC
import Derived.Test.YtfegklafpjdemaaGreatDoorFaD
import Derived.Test.YtfegklafpjdemaaGreatDoorFaE
import Derived.Test.YtfegklafpjdemaaGreatDoorFaF
import Derived.Test.YtfegklafpjdemaaGreatDoorFaG
set_option linter.unusedVariables false
namespace Go.Proofs.YtfegklafpjdemaaGreatDoor
open Go Go.RowKit Go.ChangeShapes Go.WideShapes Go.ChangeAt Go.Proofs.YtfegklafpjdemaaGreatDoorW Mq

theorem slice_of_trod {H : Type} {enc : TypeId × Value → H} {P : Program} {W : World} {t e : TypeId} {k : IntKind} {v : Value} {y : DataW H × List MemPlace} {fuel : Nat} {spare : Nat → Bool} {held : Bool}
    (ht : P.underlying t = some (.slice e)) (he : P.underlying e = some (.int k)) (hc : P.cellsOf e = 1) (h : DataW.trod enc P W 0 spare held fuel t [v] = some y) : ∃ A n c, v = .slice A n c := by
  rcases open_ints ht he hc h with ⟨hcs, _⟩ | ⟨a, l, cap, zs, hcs, _⟩
  · injection hcs with hcs
    exact ⟨none, 0, 0, hcs⟩
  · injection hcs with hcs
    exact ⟨some a, l, cap, hcs⟩
set_option maxRecDepth 100000 in
/-- A struct of two ints and bytes, as the walks read it. -/
theorem open_plane {H : Type} {enc : TypeId × Value → H} {W : World} {b0 : Nat} {r : Reach} {v : Value} {d : DataW H} {ps : List MemPlace} (hv : Value.okWide Tryz.prog W r b0 24 v) (h : DataW.Trod enc Tryz.prog W 0 (fun _ => true) true 24 v d ps) :
    ∃ (x y : Int) (A : Option Addr) (n c : Nat) (bs : List Nat), v = .agg #[.int .i64 x, .int .i64 y, .slice A n c] ∧ bs.length = n ∧ Rd W A (u8s bs) ∧ (∀ b ∈ bs, b < 256) ∧ (∀ q ∈ ps, q.block < W.heap.size) := by
  have hlt : ∀ q ∈ ps, q.block < W.heap.size := by
    obtain ⟨m, hm⟩ := h
    exact DataW.trod_lt m _ _ _ hm
  obtain ⟨v0, v1, v2, y0, y1, y2, m, rfl, rfl, rfl, h0, h1, h2⟩ := Joins.open_agg3 Tryz.underlying24 (by kernel_rfl) (by kernel_rfl) hv h
  obtain ⟨x, e0, _, _⟩ := DataW.trod_int Tryz.underlying3 h0
  obtain ⟨y, e1, _, _⟩ := DataW.trod_int Tryz.underlying3 h1
  injection e0 with e0
  injection e1 with e1
  subst e0 e1
  obtain ⟨A, n, c, rfl⟩ := slice_of_trod Tryz.underlying22 Tryz.underlying5 (by kernel_rfl) h2
  obtain ⟨zs, hn, hR, hz, _⟩ := rd_ints (d := y2.1) (ps := y2.2) Tryz.underlying22 Tryz.underlying5 (by kernel_rfl) ⟨m, h2⟩
  have hb : ∀ z ∈ zs, 0 ≤ z ∧ z < 256 := fun z hzz => by simpa [Lit.wf, IntKind.min, IntKind.max, IntKind.signed, IntKind.bits, Int.le_iff_lt_add_one] using hz z hzz
  have e1 : u8s (zs.map Int.toNat) = zs.map fun z => Value.int .u8 z := by
    unfold u8s
    rw [List.map_map]
    refine List.map_congr_left fun z hzz => ?_
    have := hb z hzz
    show Value.int .u8 ((z.toNat : Nat) : Int) = Value.int .u8 z
    exact congrArg (Value.int .u8) (by omega)
  refine ⟨x, y, A, n, c, zs.map Int.toNat, rfl, by rw [List.length_map]; exact hn, by rw [e1]; exact hR, fun b hbb => ?_, hlt⟩
  obtain ⟨z, hzz, rfl⟩ := List.mem_map.1 hbb
  have := hb z hzz
  omega
theorem filters_all (w : World) (W H F : Int) (A : Option Addr) (n c : Nat) (bs : List Nat) (h : Rd w A (u8s bs)) (hn : bs.length = n) (h8 : ∀ b ∈ bs, b < 256) :
    Calls Tryz.prog 3 #[.agg #[.int .i64 W, .int .i64 H, .slice A n c], .int .i64 F] w (YesPost w) := by
  by_cases hl : 3000 < n
  · exact filters_long w W H F A n c hl
  · cases hg : goodB W H n
    · exact filters_bad w W H F A n c bs (by omega) h hn (.inl hg)
    · cases hf : filtB F
      · exact filters_bad w W H F A n c bs (by omega) h hn (.inr hf)
      · obtain ⟨hW, hH, _⟩ := goodB_true hg
        have hf' := filtB_true hf
        obtain ⟨W, rfl⟩ := Int.eq_ofNat_of_zero_le (show 0 ≤ W by omega)
        obtain ⟨H, rfl⟩ := Int.eq_ofNat_of_zero_le (show 0 ≤ H by omega)
        exact filters_good w W H n c F.toNat F (by omega) (by omega) A bs (by omega) h hn h8 hg

theorem own : ownKnob Tryz.prog.godebug = none := by kernel_rfl
set_option maxRecDepth 100000 in
theorem filters_lifted (os : Os) (started : os.Started) (H : Type) (enc : TypeId × Value → H) :
    ReturnsInHanded {} Tryz.checked os 3 .any (fun w args => (Rows.alphaFiltersSpec.pre enc Tryz.prog Tryz.f3 [] false w args ∧ laidMetH Tryz.prog Rows.alphaFiltersRow.laid w) ∧ sizedMet enc Tryz.prog Tryz.f3 (OpenSpec.ofChange Rows.alphaFiltersSpec) false w args)
      (Rows.alphaFiltersSpec.post enc Tryz.prog Tryz.f3 false true false false) := by
  refine returnsInHanded_of_change_and (C := Tryz.checked) (X := fun w _ => laidMetH Tryz.prog Rows.alphaFiltersRow.laid w) (fun _ _ _ hh h => h.of_heap hh) own started (by kernel_rfl) Tryz.func3
    (ChangeSpec.witness_shaped (enc := enc) (C := Tryz.checked) (os := os) (X := fun w _ => laidMetH Tryz.prog Rows.alphaFiltersRow.laid w) false (World.laidAll Tryz.prog os Rows.alphaFiltersRow.laid) #[.agg #[.int .i64 0, .int .i64 0, .slice none 0 0], .int .i64 0] 8 (World.laidAll_os _ _ _)
      (World.shaped_of_ZipB (by kernel_rfl) (by kernel_rfl)) (by kernel_rfl) (by kernel_rfl) (by kernel_rfl)
      (by rw [MakeChecks.laidMetH_plain _ _ _ (by kernel_rfl)]; exact laidMet_laidAll _ (by kernel_rfl) (by kernel_rfl))) ?_
  intro W base args ds gs before hval0 hW _ _ _ _
  have hval : ∀ (j : Nat) t v, Tryz.f3.params[j]? = some t → args[j]? = some v → Value.okWide Tryz.prog W .any base t v := hval0
  have hW' := hW
  obtain ⟨p, q, hA0, hV, rfl, _, _⟩ := hW
  have hA : DataW.TrodAll enc Tryz.prog W 0 (fun _ => true) true Tryz.f3.params.toList args.toList ds p := hA0
  rw [Tryz.params3] at hA hval
  obtain ⟨v0, vs0, d0, ds0, p0, q0, hargs, rfl, rfl, h0, r0⟩ := trodAll_cons hA
  obtain ⟨v1, vs1, d1, ds1, p1, q1, rfl, rfl, rfl, h1, r1⟩ := trodAll_cons r0
  obtain ⟨rfl, rfl, rfl⟩ := trodAll_nil r1
  obtain rfl : args = #[v0, v1] := by cases args; simp_all
  obtain ⟨rfl, rfl⟩ := trodVars_none hV
  obtain ⟨x, y, A, n, c, bs, rfl, hn, hR, h8, lt0⟩ := open_plane (hval 0 24 v0 rfl rfl) h0
  obtain ⟨F, rfl, rfl, rfl, w1⟩ := open_int Tryz.underlying3 (hval 1 3 v1 rfl rfl) h1
  simp only [List.append_nil] at hW'
  refine (filters_all W x y F A n c bs hR hn h8).mono fun e W' ⟨he, bel⟩ => ?_
  subst he
  exact ⟨_, rfl, _, _, _, [], _, [], hW', trodAll_mk1 (shut_bool Tryz.underlying4 _), trodAll_cons_mk (Below.trod pr_laidOut (by kernel_rfl) (of_decide_eq_true (by kernel_rfl)) h0 bel lt0) (trodAll_cons_mk (shut_int Tryz.underlying3 w1) trodAll_mk0), rfl, bel.frame _, fun h => by cases h⟩

theorem filters_closed : joinedFacts Tryz.prog 3 Tryz.f3 Rows.alphaFiltersSpec Rows.alphaFiltersRow = true := by
  unfold joinedFacts
  rw [fi_inPlace, fi_unfollowed, fi_recurses, fi_named, pr_laidOut, pr_rowed]
  kernel_rfl
theorem filters_row : Rows.AlphaFiltersSaid :=
  OpenClaim.holds_of_wide 3 Tryz.f3 rfl rfl rfl rfl rfl rfl rfl ⟨rfl, rfl, rfl, rfl, rfl⟩ rfl rfl rfl rfl rfl (by kernel_rfl) Tryz.func3 filters_closed
    (of_decide_eq_true (by kernel_rfl)) (by unfold Func.isWrapper; first | (rw [if_pos (by decide +kernel)]; kernel_rfl) | (rw [if_neg (by decide +kernel)]; exact ⟨rfl, rfl⟩))
    (fun os started H enc _ => filters_lifted os started H enc)
theorem filters_card : Rows.AlphaFiltersCardSaid :=
  Claim7.holds_tied_plain_at .later [] [.data, .data, .data, .data, .sentinel, .sentinel, .listed, .data, .pinned] true (true, "3fcee7dd1aa8f49a3f08411744921c67d7cd56f62740fd642d2bfca96b628eae") true filters_row (fun _ h => by cases h) (by kernel_rfl) (fun _ h => by cases h) alphaFilters_row_tie rfl ⟨rfl, rfl⟩ (by kernel_rfl) rfl
    (fun f fn hf hfn => by
      obtain rfl : f = 3 := Option.some.inj ((show Tryz.prog.funcNamed "marquetry/marquetrylaw26.AlphaFilters" = some 3 by kernel_rfl).symm.trans hf) |>.symm
      obtain rfl : fn = Tryz.f3 := (Option.some.inj (Tryz.func3.symm.trans hfn)).symm
      exact ⟨pr_looks.symm, fun j t ht => by
        rw [Tryz.params3] at ht
        have hm : t ∈ [24, 3] := by simpa using Array.mem_of_getElem? ht
        have hall : ([24, 3].all fun u => !Tryz.prog.wantsStandIn u) = true := by kernel_rfl
        exact (show Tryz.prog.wantsStandIn t = false by simpa using List.all_eq_true.1 hall t hm)⟩)
    fi_goes.symm
#print axioms filters_card
end Go.Proofs.YtfegklafpjdemaaGreatDoor
