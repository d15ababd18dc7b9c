/- GroupNothing proved: for every pixel, cache and bytes the law answers true, and what came in reads as before; the card's listed variables are tied to the program's text. No further conditions. -/
import Derived.Test.YtdklkecoailekaaDoorCards
import Derived.Test.YtdklkecoailekaaDoorTie
import Derived.Test.YtdklkecoailekaaDoorNothing
import Derived.Test.YtdklkecoailekaaDoorOpen
import Derived.LaidMore
import Derived.Lay
import Derived.SevenTiedAt
import Derived.Stop.Joined
set_option linter.unusedVariables false
namespace Go.Proofs.YtdklkecoailekaaDoor
open Go Go.RowKit Go.ChangeShapes Go.WideShapes Go.ChangeAt Go.Proofs.YtdklkecoailekaaDoorW Mq

theorem nothing_long (w : World) (p q : Int) (A : Option Addr) (n cap : Nat) (hn : 50 < n) (hq : 0 ≤ q ∧ q < 256) :
    Calls Tryd.prog 3 #[.int .u32 p, .int .u8 q, .slice A n cap] w fun e w' => e = .returned (.bool true) ∧ Below w.heap.size w w' := by
  have h1 := hq.1
  have h2 := hq.2
  go_enter Tryd.func3, Tryd.ntmps3
  go_wp2_with (go_at_call 4; refine (answers_calls _).mono ?_; rintro e w1 ⟨rfl, hbel⟩)
  go_ret
  exact ⟨rfl, hbel⟩

theorem own : ownKnob Tryd.prog.godebug = none := by kernel_rfl
theorem laidOut : laidOutB Tryd.prog = true := by kernel_rfl
set_option maxRecDepth 100000 in
theorem lifted (os : Os) (started : os.Started) (H : Type) (enc : TypeId × Value → H) :
    ReturnsInHanded {} Tryd.checked os 3 .any (fun w args => (Rows.groupNothingSpec.pre enc Tryd.prog Tryd.f3 [] false w args ∧ laidMetH Tryd.prog Rows.groupNothingRow.laid w) ∧ sizedMet enc Tryd.prog Tryd.f3 (OpenSpec.ofChange Rows.groupNothingSpec) false w args)
      (Rows.groupNothingSpec.post enc Tryd.prog Tryd.f3 false true false false) := by
  refine returnsInHanded_of_change_and (C := Tryd.checked) (X := fun w _ => laidMetH Tryd.prog Rows.groupNothingRow.laid w) (fun _ _ _ hh h => h.of_heap hh) own started (by kernel_rfl) Tryd.func3
    (ChangeSpec.witness_shaped (enc := enc) (C := Tryd.checked) (os := os) (X := fun w _ => laidMetH Tryd.prog Rows.groupNothingRow.laid w) false (World.laidAll Tryd.prog os Rows.groupNothingRow.laid) #[.int .u32 0, .int .u8 0, .slice none 0 0] 8 (World.laidAll_os _ _ _)
      (World.shaped_of_ZipB (by kernel_rfl) (by kernel_rfl)) (by kernel_rfl) (by kernel_rfl) (by kernel_rfl)
      (by rw [MakeChecks.laidMetH_plain _ _ _ (by kernel_rfl)]; exact laidMet_laidAll _ (by kernel_rfl) (by kernel_rfl))) ?_
  intro W base args ds gs before hval0 hW _ _ _ _
  have hval : ∀ (j : Nat) t v, Tryd.f3.params[j]? = some t → args[j]? = some v → Value.okWide Tryd.prog W .any base t v := hval0
  have hW' := hW
  obtain ⟨p, q, hA0, hV, rfl, _, _⟩ := hW
  have hA : DataW.TrodAll enc Tryd.prog W 0 (fun _ => true) true Tryd.f3.params.toList args.toList ds p := hA0
  rw [Tryd.params3] at hA hval
  obtain ⟨v0, vs0, d0, ds0, p0, q0, hargs, rfl, rfl, h0, r0⟩ := trodAll_cons hA
  obtain ⟨v1, vs1, d1, ds1, p1, q1, rfl, rfl, rfl, h1, r1⟩ := trodAll_cons r0
  obtain ⟨v2, vs2, d2, ds2, p2, q2, rfl, rfl, rfl, h2, r2⟩ := trodAll_cons r1
  obtain ⟨rfl, rfl, rfl⟩ := trodAll_nil r2
  obtain rfl : args = #[v0, v1, v2] := by cases args; simp_all
  obtain ⟨rfl, rfl⟩ := trodVars_none hV
  obtain ⟨x0, rfl, rfl, rfl, w0⟩ := open_int Tryd.underlying22 (hval 0 22 v0 rfl rfl) h0
  obtain ⟨x1, rfl, rfl, rfl, w1⟩ := open_int Tryd.underlying5 (hval 1 5 v1 rfl rfl) h1
  obtain ⟨A, n, c, rfl⟩ := okWide_slice Tryd.underlying23 (hval 2 23 v2 rfl rfl)
  obtain ⟨zs, hn, hR, hz, lt2⟩ := rd_ints Tryd.underlying23 Tryd.underlying5 (by kernel_rfl) h2
  have b0 : 0 ≤ x0 ∧ x0 < 4294967296 := by simpa [Lit.wf, IntKind.min, IntKind.max, IntKind.signed, IntKind.bits, Int.le_iff_lt_add_one] using w0
  have b1 : 0 ≤ x1 ∧ x1 < 256 := by simpa [Lit.wf, IntKind.min, IntKind.max, IntKind.signed, IntKind.bits, Int.le_iff_lt_add_one] using w1
  simp only [List.append_nil] at hW'
  have fin : Calls Tryd.prog 3 #[.int .u32 x0, .int .u8 x1, .slice A n c] W fun e w' => e = .returned (.bool true) ∧ Below W.heap.size W w' := by
    by_cases hlong : 50 < n
    · exact nothing_long W x0 x1 A n c hlong b1
    · obtain ⟨y0, rfl⟩ := Int.eq_ofNat_of_zero_le b0.1
      obtain ⟨y1, rfl⟩ := Int.eq_ofNat_of_zero_le b1.1
      have hb : ∀ z ∈ zs, 0 ≤ z ∧ z < 256 := fun z hzz => by simpa [Lit.wf, IntKind.min, IntKind.max, IntKind.signed, IntKind.bits, Int.le_iff_lt_add_one] using hz z hzz
      have e1 : u8s (zs.map Int.toNat) = zs.map fun z => Value.int .u8 z := by
        unfold u8s
        rw [List.map_map]
        refine List.map_congr_left fun z hzz => ?_
        have := hb z hzz
        show Value.int .u8 ((z.toNat : Nat) : Int) = Value.int .u8 z
        exact congrArg (Value.int .u8) (by omega)
      have := nothing_walk W y0 y1 A c (zs.map Int.toNat) (by omega) (by omega) (by rw [e1]; exact hR) (by simp; omega) (by
        intro b hbb
        obtain ⟨z, hzz, rfl⟩ := List.mem_map.1 hbb
        have := hb z hzz
        omega)
      rw [List.length_map, hn] at this
      exact this
  refine fin.mono fun e W' ⟨he, bel⟩ => ?_
  subst he
  exact ⟨_, rfl, _, _, _, [], _, [], hW', trodAll_mk1 (shut_bool Tryd.underlying4 _), trodAll_cons_mk (shut_int Tryd.underlying22 w0) (trodAll_cons_mk (shut_int Tryd.underlying5 w1) (trodAll_cons_mk (Below.trod laidOut (by kernel_rfl) (of_decide_eq_true (by kernel_rfl)) h2 bel lt2) trodAll_mk0)), rfl, bel.frame _, fun h => by cases h⟩

theorem row_holds : Rows.GroupNothingSaid :=
  OpenClaim.holds_of_wide 3 Tryd.f3 rfl rfl rfl rfl rfl rfl rfl ⟨rfl, rfl, rfl, rfl, rfl⟩ rfl rfl rfl rfl rfl (by kernel_rfl) Tryd.func3 (by kernel_rfl)
    (of_decide_eq_true (by kernel_rfl)) (by unfold Func.isWrapper; first | (rw [if_pos (by decide +kernel)]; kernel_rfl) | (rw [if_neg (by decide +kernel)]; exact ⟨rfl, rfl⟩))
    (fun os started H enc _ => lifted os started H enc)
theorem nothing_card : Rows.GroupNothingCardSaid :=
  Claim7.holds_tied_plain_at .later [] [.data, .data, .data, .data, .sentinel, .sentinel, .listed, .data, .pinned] true (true, "99f9711e1f7fad7b682ab66da9c015a9e076e8ff88504b7c11408fae2eb0123c") true row_holds (fun _ h => by cases h) (by kernel_rfl) (fun _ h => by cases h) groupNothing_row_tie rfl ⟨rfl, rfl⟩ (by kernel_rfl) rfl
    (fun f fn hf hfn => by
      obtain rfl : f = 3 := Option.some.inj ((show Tryd.prog.funcNamed "marquetry/marquetrylaw18.GroupNothing" = some 3 by kernel_rfl).symm.trans hf) |>.symm
      obtain rfl : fn = Tryd.f3 := (Option.some.inj (Tryd.func3.symm.trans hfn)).symm
      exact ⟨by kernel_rfl, fun j t ht => by
        rw [Tryd.params3] at ht
        have hm : t ∈ [22, 5, 23] := by simpa using Array.mem_of_getElem? ht
        have hall : ([22, 5, 23].all fun u => !Tryd.prog.wantsStandIn u) = true := by kernel_rfl
        exact (show Tryd.prog.wantsStandIn t = false by simpa using List.all_eq_true.1 hall t hm)⟩)
    (by kernel_rfl)
#print axioms nothing_card
end Go.Proofs.YtdklkecoailekaaDoor
