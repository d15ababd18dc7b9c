/- code.One. -/
import Derived.Test.YtdklkecoailekaaDoorFun
set_option linter.unusedVariables false
namespace Go.Proofs.YtdklkecoailekaaDoor
open Go.RowKit Go Go.Shelf Go.Proofs.YtdklkecoailekaaDoorW Mq

theorem has_pred (w : World) : PredFn Tryd.prog 41 #[] nz w := by
  rintro x W ⟨m, rfl⟩
  show Calls Tryd.prog 41 #[.int .i64 x] _ _
  go_enter Tryd.func41, Tryd.ntmps41
  go_wp2
  go_ret
  exact ⟨rfl, 0, rfl⟩
theorem Rd.cut {w : World} {b o : Nat} {cs : List Value} (h : Rd w (some ⟨b, o, none⟩) cs) (k : Nat) : Rd w (some ⟨b, o + k, none⟩) (cs.drop k) := by
  rcases h with rfl | ⟨b', o', hA, hb, hc⟩
  · exact .inl (by simp)
  · injection hA with hA
    injection hA with h1 h2 _
    subst h1 h2
    refine .inr ⟨b, o + k, rfl, hb, fun j u hj => ?_⟩
    rw [List.getElem?_drop] at hj
    have := hc (k + j) u hj
    rwa [← Nat.add_assoc] at this

theorem one_lens (w : World) (A : Option Addr) (c : Nat) (l : List Int) (h : Rd w A (ints l)) (hl : l.length ≤ 2 ^ 44) (hlc : l.length ≤ c) :
    Calls Tryd.prog 29 #[.slice A l.length c] w fun e w' => e = .returned (.tuple #[.int .i64 (oneV l).1, .bool (oneV l).2]) ∧ ∃ m, w' = w.drewN m := by
  have hl' : l.length ≤ 17592186044416 := hl
  have eg : ∀ args w, (callFunc 41 args).run Tryd.prog w = .ok (.enter 41 args) w := enters_of Tryd.func41 (by kernel_rfl) rfl
  have HR := Lib.hid h
  have HP := fun W => Lib.hid (has_pred W)
  obtain ⟨i, hi⟩ : ∃ i, idxI nz l = i := ⟨_, rfl⟩
  have HI := Lib.hid hi
  by_cases hneg : i < 0
  · have hfin : oneV l = (0, false) := by unfold oneV; rw [hi]; simp [hneg]
    have HF := Lib.hid hfin
    clear hfin hi
    go_enter Tryd.func29, Tryd.ntmps29
    go_wp2_with (go_at_call 42; refine (indexFunc_calls _ _ _ _ _ _ _ HR.out hl eg (HP _).out).mono ?_; rintro e w' ⟨rfl, m', rfl⟩; rw [HI.out])
    go_ret2
    exact ⟨by rw [HF.out]; rfl, _, rfl⟩
  · have hlt := idxI_lt nz l (by omega)
    rw [hi] at hlt
    obtain ⟨k, rfl⟩ := Int.eq_ofNat_of_zero_le (show 0 ≤ i by omega)
    obtain ⟨b, o, rfl, hb, _⟩ := rd_int h (by omega)
    have hcut := Rd.cut h (k + 1)
    have hlen : (l.drop (k + 1)).length = l.length - (k + 1) := by simp
    have hints : (ints l).drop (k + 1) = ints (l.drop (k + 1)) := by simp [ints, List.map_drop]
    rw [hints] at hcut
    have hnil : c = k + 1 → Rd w (some ⟨b, o, none⟩) (ints (l.drop (k + 1))) := fun hc => .inl (by rw [List.drop_eq_nil_of_le (by omega)]; rfl)
    have hfin : oneV l = if (l.drop (k + 1)).any nz then (0, false) else ((k : Int), true) := by
      unfold oneV; rw [hi]
      simp only [Int.toNat_natCast]
      rw [if_neg hneg]
    have HF := Lib.hid hfin
    have HL := Lib.hid hlen
    have HC := Lib.hid hcut
    have HN := Lib.hid hnil
    clear hfin hi hlen hcut hints hnil h
    have hl2 : (l.drop (k + 1)).length ≤ 2 ^ 44 := by rw [List.length_drop]; omega
    have HL2 := Lib.hid hl2
    clear hl2
    cases ha : (l.drop (k + 1)).any nz
    all_goals
      by_cases hc : c = k + 1
      · subst hc
        have HA := Lib.hid ha
        have HN2 := Lib.hid (HN.out rfl)
        have HL0 : Hid ((l.drop (k + 1)).length = 0) := by rw [List.length_drop]; show _ = _; omega
        clear ha HN
        go_enter Tryd.func29, Tryd.ntmps29
        go_wp2_with (first
          | (go_at_call 42; refine (indexFunc_calls _ _ _ _ _ _ _ HR.out hl eg (HP _).out).mono ?_; rintro e w' ⟨rfl, m', rfl⟩; rw [HI.out])
          | (go_at_call 43; refine (containsFunc_n _ _ _ _ _ HL0.out _ _ _ (Rd.drewN_iff.2 HN2.out) HL2.out eg (HP _).out).mono ?_; rintro e w' ⟨rfl, m2, rfl⟩; rw [HA.out]))
        go_ret2
        exact ⟨by rw [HF.out, HA.out]; rfl, _, rfl⟩
      · have HA := Lib.hid ha
        clear ha
        go_enter Tryd.func29, Tryd.ntmps29
        go_wp2_with (first
          | (go_at_call 42; refine (indexFunc_calls _ _ _ _ _ _ _ HR.out hl eg (HP _).out).mono ?_; rintro e w' ⟨rfl, m', rfl⟩; rw [HI.out])
          | (go_at_call 43; refine (containsFunc_n _ _ _ _ _ HL.out _ _ _ (Rd.drewN_iff.2 HC.out) HL2.out eg (HP _).out).mono ?_; rintro e w' ⟨rfl, m2, rfl⟩; rw [HA.out]))
        go_ret2
        exact ⟨by rw [HF.out, HA.out]; rfl, _, rfl⟩
end Go.Proofs.YtdklkecoailekaaDoor
