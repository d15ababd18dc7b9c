/- code.Order; the library's stable sort, of no more than one. -/
import Derived.Test.YtdklkecoailekaaDoorOne
import Derived.Test.YtdklkecoailekaaDoorPSort
set_option linter.unusedVariables false
namespace Go.Proofs.YtdklkecoailekaaDoor
open Go.RowKit Go Go.Shelf Go.Proofs.YtdklkecoailekaaDoorW Mq

theorem insertion_small (w : World) (A : Option Addr) (n c : Nat) (fv : Value) (h : n ≤ 1) :
    Calls Tryd.prog 58 #[.slice A n c, .int .i64 0, .int .i64 n, fv] w fun e w' => e = .returned (.tuple #[]) ∧ w = w' := by
  go_enter Tryd.func58, Tryd.ntmps58
  go_wp2
  refine wp_loop_rounds 1 ?_
  rw [rounds_succ]
  go_wp2
  go_end0
  exact ⟨rfl, rfl⟩
theorem stable_small (w : World) (A : Option Addr) (n c : Nat) (fv : Value) (h : n ≤ 1) :
    Calls Tryd.prog 51 #[.slice A n c, .int .i64 n, fv] w fun e w' => e = .returned (.tuple #[]) ∧ w = w' := by
  go_enter Tryd.func51, Tryd.ntmps51
  go_wp2
  refine wp_loop_rounds 1 ?_
  rw [rounds_succ]
  go_wp2_with (go_at_call 58; refine (insertion_small _ _ _ _ _ h).mono ?_; rintro e w' ⟨rfl, rfl⟩)
  refine wp_loop_rounds 1 ?_
  rw [rounds_succ]
  go_wp2
  go_end0
  exact ⟨rfl, rfl⟩
theorem sort_small (w : World) (A : Option Addr) (n c : Nat) (fv : Value) (h : n ≤ 1) :
    Calls Tryd.prog 39 #[.slice A n c, fv] w fun e w' => e = .returned (.tuple #[]) ∧ w = w' := by
  go_enter Tryd.func39, Tryd.ntmps39
  go_wp2_with (go_at_call 51; refine (stable_small _ _ _ _ _ h).mono ?_; rintro e w' ⟨rfl, rfl⟩)
  go_end0
  exact ⟨rfl, rfl⟩

/-- What is asked of a comparison: the difference of two keys, in every world in which the row alone has been written. -/
def CmpFn (P : Program) (g : Nat) (lb : Array Value) (key : Int → Int) (xs : List Int) (gb : Nat) (w : World) : Prop :=
  ∀ (x y : Int) (W : World), x ∈ xs → y ∈ xs → St [gb] [gb] w W → Calls P g (#[.int .i64 x, .int .i64 y] ++ lb) W fun e W' => e = .returned (.int .i64 (key x - key y)) ∧ ∃ m, W' = W.drewN m
/-- The library's stable sort, at so many ints. -/
def SortSaid (n : Nat) : Prop := ∀ (w : World) (gb c g : Nat) (lb : Array Value) (key : Int → Int) (xs : List Int), xs.length = n →
  Own w 3 1 (.slice (some ⟨gb, 0, none⟩) n c) n (ints xs) → (∀ args w, (callFunc g args).run Tryd.prog w = .ok (.enter g args) w) → CmpFn Tryd.prog g lb key xs gb w →
  Calls Tryd.prog 39 #[.slice (some ⟨gb, 0, none⟩) n c, .func (.func g) #[] lb] w fun e w' => e = .returned (.tuple #[]) ∧
    Own w' 3 1 (.slice (some ⟨gb, 0, none⟩) n c) n (ints (ssort key xs)) ∧ St [gb] [gb] w w'

theorem ordcmp_calls (W : World) (B : Nat) (A : Option Addr) (c : Nat) (l : List Int) (a b : Int) (hB : W.cell? ⟨B, 0, none⟩ = some (.slice A l.length c)) (h : Rd W A (ints l)) (ha : 0 ≤ a ∧ a < l.length) (hb : 0 ≤ b ∧ b < l.length)
    (hr : ∀ x ∈ l, -1099511627776 ≤ x ∧ x ≤ 1099511627776) :
    Calls Tryd.prog 40 #[.int .i64 a, .int .i64 b, .pointer (some ⟨B, 0, none⟩)] W fun e W' => e = .returned (.int .i64 (lenAt l a - lenAt l b)) ∧ ∃ m, W' = W.drewN m := by
  obtain ⟨a, rfl⟩ := Int.eq_ofNat_of_zero_le ha.1
  obtain ⟨b, rfl⟩ := Int.eq_ofNat_of_zero_le hb.1
  obtain ⟨bl, o, rfl, hbl, hc⟩ := rd_int h (by omega)
  obtain ⟨x, hx⟩ : ∃ x, l[a]? = some x := ⟨_, List.getElem?_eq_getElem (by omega)⟩
  obtain ⟨y, hy⟩ : ∃ y, l[b]? = some y := ⟨_, List.getElem?_eq_getElem (by omega)⟩
  have cx := hc a x hx
  have cy := hc b y hy
  have rx := hr x (List.mem_of_getElem? hx)
  have ry := hr y (List.mem_of_getElem? hy)
  have hk : lenAt l a - lenAt l b = x - y := by simp [lenAt, hx, hy]
  have ha' : a < l.length := by omega
  have hb' : b < l.length := by omega
  have H1 := Lib.hid hk
  clear hk hx hy hc h hr ha hb
  go_enter Tryd.func40, Tryd.ntmps40
  go_wp2
  go_quiet (fail)
  go_wp2
  go_ret
  exact ⟨by rw [H1.out]; rfl, _, rfl⟩

set_option maxHeartbeats 1000000 in
theorem order_calls (w : World) (A : Option Addr) (c : Nat) (l : List Int) (h : Rd w A (ints l)) (hl : l.length ≤ 2 ^ 43) (hr : ∀ x ∈ l, -1099511627776 ≤ x ∧ x ≤ 1099511627776)
    (hs : 2 ≤ many l → SortSaid (many l)) :
    Calls Tryd.prog 28 #[.slice A l.length c] w fun e w' => ∃ v, e = .returned v ∧ Own w' 3 1 v (orderOf l).length (ints (orderOf l)) ∧ (∀ b, v.ownBlock = some b → w.heap.size < b) ∧ Below w.heap.size w w' := by
  have hl' : l.length ≤ 8796093022208 := hl
  have HR := Lib.hid h
  have HS := Lib.hid hs
  have eg : ∀ args w, (callFunc 40 args).run Tryd.prog w = .ok (.enter 40 args) w := enters_of Tryd.func40 (by kernel_rfl) rfl
  clear hl hs h
  go_enter Tryd.func28, Tryd.ntmps28
  go_wp2_with fail
  go_loopw [3, 8] (fun v i wr => ∃ k : Nat, k ≤ l.length ∧ i = .int .i64 k ∧ Own wr 3 1 v (posIdx (l.take k)).length (ints (posIdx (l.take k))) ∧ (∀ b, v.ownBlock = some b → w.heap.size < b) ∧
      wr.heap[w.heap.size]? = some (.cells #[.slice A l.length c] 25 (0, 0)) ∧ w.heap.size < wr.heap.size ∧ Below w.heap.size w wr) (fun _ i _ => l.length - (intOf i).toNat)
  case atStart => exact ⟨0, Nat.zero_le _, rfl, World.ownsRow_nil _ _ _ _, by simp [Value.ownBlock], blk_new _ _, by simp, (Below.refl _ _).alloc (Nat.le_refl _) _⟩
  case round =>
    obtain ⟨k, hk, rfl, hown, hvb, hbox, hsz, hbel⟩ := hrel
    have hc0 := blk_cell hbox 0
    simp at hc0
    have hle : (posIdx (l.take k)).length ≤ k := by
      rw [posIdx_length]
      exact Nat.le_trans (many_le _) (List.length_take_le _ _)
    by_cases hlt : k < l.length
    · have HRr := HR.out.below hbel
      obtain ⟨b, o, rfl, hb, hc⟩ := rd_int HRr (by omega)
      obtain ⟨x, hx⟩ : ∃ x, l[k]? = some x := ⟨_, List.getElem?_eq_getElem hlt⟩
      have hcx := hc k x hx
      have hs := take_snoc l k x hx
      have hp := posIdx_snoc (l.take k) x
      rw [← hs, List.length_take, Nat.min_eq_left hk] at hp
      have H1 := Lib.hid hp
      have H2 := Lib.hid hown
      have H3 := Lib.hid hvb
      have H4 := Lib.hid hbox
      have H5 := Lib.hid hbel
      clear hs hp hx hc hown hvb hbox hbel HRr hc0
      by_cases hpos : 0 < x
      · go_wp2_with (at_builtin; refine wpList_app _ rfl (.tmp 15) (.tmp 17) 25 25 rfl 3 (.int .i64 0) 1 8 Tryd.underlying25 Tryd.info3 rfl (by decide) _ _ _ rfl (World.ownsRow.alloc H2.out _) _ _ _ rfl (Src.ofSlice _ Tryd.underlying25 ⟨wr.heap.size, 0, none⟩ 1 1 [.int .i64 k] rfl (cell_one_new _ _ _) (by simp [Value.oneCell'])) ?_ ?_ ?_)
        · unfold maxLen; omega
        · omega
        intro v' w1 hown2 hg _ hat
        have K1 := Lib.hid hown2
        have K2 := Lib.hid hg
        have K3 := Lib.hid hat
        clear hown2 hg hat
        go_wp2
        go_roundw
        case rel =>
          have hg := K2.out
          have hsz1 := hg.size
          simp at hsz1
          refine ⟨k + 1, by omega, by go_num, ?_, ?_, ?_, by omega, ?_⟩
          · rw [H1.out, if_pos hpos]
            have := K1.out
            simpa [ints] using this
          · intro b' hb'
            rcases K3.out with e | e
            · exact H3.out b' (e ▸ hb')
            · rw [hb'] at e
              simp at e
              omega
          · exact blk_grown hg (fun e => by have := H3.out _ e.symm; omega) (blk_old H4.out _)
          · exact (H5.out.alloc (by omega) _).grown hg (by simp; omega) (fun b' hb' => Nat.le_of_lt (H3.out b' hb'))
        case measure => simp [intOf]; omega
      · go_wp2
        go_roundw
        case rel =>
          refine ⟨k + 1, by omega, by go_num, ?_, H3.out, H4.out, by omega, H5.out⟩
          rw [H1.out, if_neg hpos, List.append_nil]
          exact H2.out
        case measure => simp [intOf]; omega
    · obtain rfl : k = l.length := by omega
      rw [List.take_length] at hown hle
      have hml : (posIdx l).length = many l := posIdx_length l
      obtain ⟨A2, c2, rfl⟩ := Own.shape hown
      have H2 := Lib.hid hown
      have H3 := Lib.hid hvb
      have H4 := Lib.hid hbox
      have H5 := Lib.hid hbel
      have H6 := Lib.hid hml
      clear hown hvb hbox hbel hml
      by_cases h1 : many l ≤ 1
      · have h1' : (posIdx l).length ≤ 1 := by rw [H6.out]; exact h1
        have ho : orderOf l = posIdx l := ssort_small _ _ h1'
        have HO := Lib.hid ho
        clear ho
        go_wp2_with (go_at_call 39; refine (sort_small _ _ _ _ _ h1').mono ?_; rintro e w' ⟨rfl, rfl⟩)
        go_ret
        exact ⟨_, rfl, by rw [HO.out]; exact H2.out, H3.out, H5.out⟩
      · obtain ⟨g, cap, hA, hform⟩ := World.ownsRow.form H2.out (by rw [H6.out]; omega)
        injection hA with hA _ hcc
        subst hA hcc
        have hsort := HS.out (by omega)
        have hgb := H3.out g rfl
        have hcmp : CmpFn Tryd.prog 40 #[.pointer (some ⟨w.heap.size, 0, none⟩)] (lenAt l) (posIdx l) g wr := by
          intro x y W hx hy hst
          refine ordcmp_calls W w.heap.size A c l x y ?_ ?_ ?_ ?_ hr
          · rw [hst.cell (p := ⟨w.heap.size, 0, none⟩) (by exact hsz) (by simp; omega)]
            have := blk_cell H4.out 0
            simpa using this
          · refine (HR.out.below H5.out).keep hst ?_
            rintro a rfl
            simp
            intro e
            have hlt : 0 < l.length := Nat.lt_of_lt_of_le (show 0 < many l by omega) (many_le l)
            obtain ⟨b, o, hA, hb, _⟩ := rd_int HR.out hlt
            injection hA with hA
            rw [hA] at e
            simp at e
            omega
          · exact ⟨(posIdx_mem l x hx).1, (posIdx_mem l x hx).2.1⟩
          · exact ⟨(posIdx_mem l y hy).1, (posIdx_mem l y hy).2.1⟩
        have HC := Lib.hid hcmp
        have HT := Lib.hid hsort
        clear hcmp hsort
        rw [H6.out] at H2
        rw [H6.out]
        go_wp2_with (go_at_call 39; refine (HT.out _ g _ 40 _ (lenAt l) (posIdx l) H6.out H2.out eg HC.out).mono ?_; rintro e w' ⟨rfl, hq1, hq2⟩; have Q1 := Lib.hid hq1; have Q2 := Lib.hid hq2; clear hq1 hq2)
        go_ret
        refine ⟨_, rfl, ?_, H3.out, ?_⟩
        · rw [orderOf_length]; exact Q1.out
        · exact Q2.out.belowFrom H5.out (by omega) (by intro k hk; simp at hk; omega)
end Go.Proofs.YtdklkecoailekaaDoor
