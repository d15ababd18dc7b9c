/- Functions of the library that take a predicate: contracts, for whatever predicate. -/
import Derived.Test.YtdklkecoailekaaDoorCode
import Derived.Shelf.Abstract
set_option linter.unusedVariables false
namespace Go.Proofs.YtdklkecoailekaaDoor
open Go.RowKit Go Go.Shelf Go.Proofs.YtdklkecoailekaaDoorW Mq

/-- A function value that tells p of an int, reads and draws alone. -/
def PredFn (P : Program) (g : Nat) (lb : Array Value) (p : Int → Bool) (w : World) : Prop :=
  ∀ (x : Int) (W : World), (∃ m, W = w.drewN m) → Calls P g (#[.int .i64 x] ++ lb) W fun e W' => e = .returned (.bool (p x)) ∧ ∃ m, W' = W.drewN m
theorem PredFn.later {P : Program} {g : Nat} {lb : Array Value} {p : Int → Bool} {w : World} (h : PredFn P g lb p w) (m : Nat) : PredFn P g lb p (w.drewN m) :=
  fun x W ⟨k, hk⟩ => h x W ⟨m + k, by rw [hk, World.drewN_drewN]⟩
set_option maxHeartbeats 400000 in
theorem indexFunc_calls (w : World) (A : Option Addr) (c : Nat) (l : List Int) (g : Nat) (lb : Array Value) (p : Int → Bool) (h : Rd w A (ints l)) (hl : l.length ≤ 2 ^ 44)
    (eg : ∀ args w, (callFunc g args).run Tryd.prog w = .ok (.enter g args) w) (hp : PredFn Tryd.prog g lb p w) :
    Calls Tryd.prog 42 #[.slice A l.length c, .func (.func g) #[] lb] w fun e w' => e = .returned (.int .i64 (idxI p l)) ∧ ∃ m, w' = w.drewN m := by
  have hl' : l.length ≤ 17592186044416 := hl
  have HP := Lib.hid hp
  clear hl hp
  go_enter Tryd.func42, Tryd.ntmps42
  go_wp2_with fail
  go_loopw [8] (fun i wr => ∃ k : Nat, k ≤ l.length ∧ i = .int .i64 k ∧ (∀ x ∈ l.take k, p x = false) ∧ ∃ m, wr = w.drewN m) (fun i _ => l.length - (intOf i).toNat)
  case atStart => exact ⟨0, Nat.zero_le _, rfl, by simp, 0, rfl⟩
  case round =>
    obtain ⟨k, hk, rfl, hno, m, rfl⟩ := hrel
    have N1 := Lib.hid hno
    clear hno
    by_cases hlt : k < l.length
    · obtain ⟨b, o, rfl, hb, hc⟩ := rd_int h (by omega)
      obtain ⟨x, hx⟩ : ∃ x, l[k]? = some x := ⟨_, List.getElem?_eq_getElem hlt⟩
      have hcx := hc k x hx
      have hs := take_snoc l k x hx
      have H1 := Lib.hid hs
      have H2 := Lib.hid hx
      have H3 := Lib.hid h
      have H4 := Lib.hid hlt
      clear hs hx hc h
      cases hpx : p x with
      | true =>
        have hfin : idxI p l = k := by
          unfold idxI
          conv => lhs; arg 2; rw [← List.take_append_drop k l]
          rw [firstIx_skip p _ _ 0 N1.out, List.drop_eq_getElem_cons H4.out, firstIx]
          have : l[k]'(H4.out) = x := (List.getElem?_eq_some_iff.1 H2.out).2
          rw [this, hpx, if_pos rfl, List.length_take, Nat.min_eq_left hk]
          simp
        have HF := Lib.hid hfin
        clear hfin
        go_wp2_with (go_at_fn g; refine (HP.out x _ ⟨_, rfl⟩).mono ?_; rintro e w' ⟨rfl, m', rfl⟩)
        go_ret
        exact ⟨by rw [HF.out]; rfl, _, rfl⟩
      | false =>
        go_wp2_with (go_at_fn g; refine (HP.out x _ ⟨_, rfl⟩).mono ?_; rintro e w' ⟨rfl, m', rfl⟩)
        go_roundw
        case rel =>
          refine ⟨k + 1, by omega, by go_num, ?_, _, rfl⟩
          rw [H1.out]
          intro y hy
          rcases List.mem_append.1 hy with h1 | h1
          · exact N1.out y h1
          · simp at h1; rw [h1]; exact hpx
        case measure => simp [intOf]; omega
    · obtain rfl : k = l.length := by omega
      have hfin : idxI p l = -1 := by
        have := N1.out
        rw [List.take_length] at this
        unfold idxI
        have h2 := firstIx_skip p l [] 0 this
        rw [List.append_nil] at h2
        rw [h2]
        rfl
      have HF := Lib.hid hfin
      clear hfin
      go_wp2_with fail
      go_ret
      exact ⟨by rw [HF.out]; rfl, m, rfl⟩

theorem containsFunc_calls (w : World) (A : Option Addr) (c : Nat) (l : List Int) (g : Nat) (lb : Array Value) (p : Int → Bool) (h : Rd w A (ints l)) (hl : l.length ≤ 2 ^ 44)
    (eg : ∀ args w, (callFunc g args).run Tryd.prog w = .ok (.enter g args) w) (hp : PredFn Tryd.prog g lb p w) :
    Calls Tryd.prog 43 #[.slice A l.length c, .func (.func g) #[] lb] w fun e w' => e = .returned (.bool (l.any p)) ∧ ∃ m, w' = w.drewN m := by
  have hd : decide (0 ≤ idxI p l) = l.any p := by
    have := idxI_none p l
    cases hh : l.any p
    · simp [hh] at this; simpa using this
    · simp [hh] at this; simpa using this
  have H1 := Lib.hid hd
  have HP := Lib.hid hp
  have HR := Lib.hid h
  clear hd hp h
  go_enter Tryd.func43, Tryd.ntmps43
  go_wp2_with (go_at_call 42; refine (indexFunc_calls _ _ _ _ _ _ _ HR.out hl eg HP.out).mono ?_; rintro e w' ⟨rfl, m', rfl⟩)
  go_ret
  exact ⟨by rw [← H1.out]; rfl, _, rfl⟩
theorem containsFunc_n (w : World) (A : Option Addr) (n c : Nat) (l : List Int) (hn : l.length = n) (g : Nat) (lb : Array Value) (p : Int → Bool) (h : Rd w A (ints l)) (hl : l.length ≤ 2 ^ 44)
    (eg : ∀ args w, (callFunc g args).run Tryd.prog w = .ok (.enter g args) w) (hp : PredFn Tryd.prog g lb p w) :
    Calls Tryd.prog 43 #[.slice A n c, .func (.func g) #[] lb] w fun e w' => e = .returned (.bool (l.any p)) ∧ ∃ m, w' = w.drewN m := by
  subst hn
  exact containsFunc_calls w A c l g lb p h hl eg hp
end Go.Proofs.YtdklkecoailekaaDoor
