/- Package code: contracts. -/
import Derived.Test.YtdklkecoailekaaDoorChecked
import Derived.Test.YtdklkecoailekaaDoorWd
import Derived.Test.YtdklkecoailekaaDoorPCode
import Derived.Laws.BitsAllLaws
set_option linter.unusedVariables false
namespace Go.Proofs.YtdklkecoailekaaDoor
open Go.RowKit Go Go.Proofs.YtdklkecoailekaaDoorW Mq

theorem Tryd.info3 : (Tryd.prog.info? 3).map (fun i => (i.zero, i.size, i.bytes)) = some (some (.int .i64 0), 1, 8) := by kernel_rfl
def ints (xs : List Int) : List Value := xs.map fun x : Int => Value.int .i64 x
theorem ints_length (xs : List Int) : (ints xs).length = xs.length := by simp [ints]
theorem ints_one (bs : List Int) : ∀ u ∈ ints bs, u.oneCell' = true := by
  intro u hu
  obtain ⟨b, _, rfl⟩ := List.mem_map.1 hu
  rfl
/-- One cell of a slice of ints that is read. -/
theorem rd_int {w : World} {A : Option Addr} {xs : List Int} (h : Rd w A (ints xs)) (hne : 0 < xs.length) : ∃ b o, A = some ⟨b, o, none⟩ ∧ b < w.heap.size ∧ ∀ (j : Nat) (x : Int), xs[j]? = some x → w.cell? ⟨b, o + j, none⟩ = some (.int .i64 x) := by
  obtain ⟨b, o, hA, hb, hc⟩ := h.at_ (by intro e; have := ints_length xs; rw [e] at this; simp at this; omega)
  exact ⟨b, o, hA, hb, fun j x hx => hc j _ (by simp [ints, hx])⟩

set_option maxHeartbeats 400000 in
theorem check_calls (w : World) (A : Option Addr) (c : Nat) (l : List Int) (h : Rd w A (ints l)) (hl : l.length ≤ 2 ^ 44) :
    Calls Tryd.prog 26 #[.slice A l.length c] w fun e w' => e = .returned (.int .i64 (checkE l : Nat)) ∧ w = w' := by
  have hl' : l.length ≤ 17592186044416 := hl
  clear hl
  go_enter Tryd.func26, Tryd.ntmps26
  go_wp2
  go_loop [3, 4, 9] (fun s m i => ∃ k : Nat, k ≤ l.length ∧ i = .int .i64 k ∧ s = .int .i64 (kraft (l.take k) : Nat) ∧ m = .int .i64 (many (l.take k) : Nat) ∧ inRange (l.take k)) (fun _ _ i => l.length - (intOf i).toNat)
  case atStart => exact ⟨0, Nat.zero_le _, rfl, rfl, rfl, by simp [inRange]⟩
  case round =>
    obtain ⟨k, hk, rfl, rfl, rfl, hr⟩ := hrel
    have hkl := kraft_le (l.take k)
    have hml := many_le (l.take k)
    have htk : (l.take k).length ≤ k := List.length_take_le _ _
    by_cases hlt : k < l.length
    · obtain ⟨b, o, rfl, hb, hc⟩ := rd_int h (by omega)
      obtain ⟨x, hx⟩ : ∃ x, l[k]? = some x := ⟨_, List.getElem?_eq_getElem hlt⟩
      have hcx := hc k x hx
      have hs := take_snoc l k x hx
      have hk2 := kraft_snoc (l.take k) x
      have hm2 := many_snoc (l.take k) x
      rw [← hs] at hk2 hm2
      have H1 := Lib.hid hs
      have H2 := Lib.hid hk2
      have H3 := Lib.hid hm2
      have H4 := Lib.hid hx
      have H5 := Lib.hid hr
      clear hs hk2 hm2 hx hc h hr
      by_cases h0 : x < 0
      · have hf : checkE l = 8 := if_neg (fun hh => by have := hh x (List.mem_of_getElem? H4.out); omega)
        have HF := Lib.hid hf
        clear hf
        go_wp2
        go_ret
        exact ⟨by rw [HF.out]; rfl, rfl⟩
      · by_cases h15 : 15 < x
        · have hf : checkE l = 8 := if_neg (fun hh => by have := hh x (List.mem_of_getElem? H4.out); omega)
          have HF := Lib.hid hf
          clear hf
          go_wp2
          go_ret
          exact ⟨by rw [HF.out]; rfl, rfl⟩
        · have hr2 : inRange (l.take (k + 1)) := by
            rw [H1.out]
            intro y hy
            rcases List.mem_append.1 hy with h1 | h1
            · exact H5.out y h1
            · simp at h1; omega
          have HR := Lib.hid hr2
          clear hr2
          obtain ⟨m, rfl⟩ : ∃ m : Nat, x = (m : Int) := ⟨x.toNat, by omega⟩
          by_cases hp : 0 < m
          · have hpl : 2 ^ (15 - m) ≤ 32768 := Nat.pow_le_pow_right (n := 2) (by decide) (show 15 - m ≤ 15 by omega)
            have hpw : wrap64 ((2 : Int) ^ (15 - m)) = ((2 ^ (15 - m) : Nat) : Int) := by
              rw [show ((2 : Int) ^ (15 - m)) = ((2 ^ (15 - m) : Nat) : Int) by simp]
              generalize 2 ^ (15 - m) = q at hpl ⊢
              unfold wrap64
              omega
            have HP := Lib.hid hpw
            clear hpw
            go_wp2
            go_round
            case rel =>
              refine ⟨k + 1, by omega, by go_num, ?_, ?_, HR.out⟩
              · rw [H2.out, HP.out, if_pos (by omega)]
                simp only [Int.toNat_natCast]
                generalize 2 ^ (15 - m) = q at hpl ⊢
                refine congrArg (Value.int IntKind.i64) ?_
                unfold wrap64
                omega
              · rw [H3.out, if_pos (by omega)]
                go_num
            case measure => simp [intOf]; omega
          · go_wp2
            go_round
            case rel =>
              refine ⟨k + 1, by omega, by go_num, ?_, ?_, HR.out⟩
              · rw [H2.out, if_neg (by omega)]; rfl
              · rw [H3.out, if_neg (by omega)]; rfl
            case measure => simp [intOf]; omega
    · obtain rfl : k = l.length := by omega
      rw [List.take_length] at hr hkl hml ⊢
      by_cases hm : many l = 1
      · have hf : checkE l = 0 := by unfold checkE; rw [if_pos hr, if_neg (by omega)]
        have HF := Lib.hid hf
        have h1 : ((many l : Int) == 1) = true := by simp; omega
        have h2 : ((many l : Int) != 1) = false := by simp; omega
        clear hf hm
        go_wp2
        go_ret
        exact ⟨by rw [HF.out]; rfl, rfl⟩
      · have h2 : ((many l : Int) != 1) = true := by simp; omega
        by_cases hk : kraft l = 32768
        · have hf : checkE l = 0 := by unfold checkE; rw [if_pos hr, if_neg (by omega)]
          have h3 : ((kraft l : Int) != 32768) = false := by simp; omega
          have HF := Lib.hid hf
          clear hf hk
          go_wp2
          go_ret
          exact ⟨by rw [HF.out]; rfl, rfl⟩
        · have hf : checkE l = 3 := by unfold checkE; rw [if_pos hr, if_pos (by omega)]
          have h3 : ((kraft l : Int) != 32768) = true := by simp; omega
          have HF := Lib.hid hf
          clear hf hk
          go_wp2
          go_ret
          exact ⟨by rw [HF.out]; rfl, rfl⟩
end Go.Proofs.YtdklkecoailekaaDoor
