/- tree.New. -/
import Derived.Test.YtdklkecoailekaaDoorCodes
import Derived.Test.YtdklkecoailekaaDoorPTree
import Derived.Test.YtdklkecoailekaaDoorBit
set_option linter.unusedVariables false
namespace Go.Proofs.YtdklkecoailekaaDoor
open Go.RowKit Go Go.Shelf Go.Proofs.YtdklkecoailekaaDoorW Mq

theorem pw_drewN {B : Nat} {a w : World} (h : Below B a w) (q : Nat) : Below B a (w.drewN q) := ⟨h.os, h.tape, h.output, h.size, h.block⟩
/-- The cells of a Tree. -/
def treeCells (v0 v1 : Value) (cnt : List Int) (v3 : Value) (one : Bool) : Array Value := (v0 :: v1 :: (ints cnt ++ [v3, .bool one])).toArray
theorem treeCells_0 (v0 v1 : Value) (cnt : List Int) (v3 : Value) (one : Bool) : (treeCells v0 v1 cnt v3 one)[0]? = some v0 := by simp [treeCells]
theorem treeCells_1 (v0 v1 : Value) (cnt : List Int) (v3 : Value) (one : Bool) : (treeCells v0 v1 cnt v3 one)[1]? = some v1 := by simp [treeCells]
theorem treeCells_cnt (v0 v1 : Value) (cnt : List Int) (v3 : Value) (one : Bool) (n : Nat) (x : Int) (h : cnt[n]? = some x) : (treeCells v0 v1 cnt v3 one)[2 + n]? = some (.int .i64 x) := by
  have hl := (List.getElem?_eq_some_iff.1 h).1
  rw [treeCells, List.getElem?_toArray, show 2 + n = n + 1 + 1 by omega, List.getElem?_cons_succ, List.getElem?_cons_succ, List.getElem?_append_left (by rw [ints_length]; omega)]
  simp [ints, h]
theorem treeCells_3 (v0 v1 : Value) (cnt : List Int) (v3 : Value) (one : Bool) (h : cnt.length = 16) : (treeCells v0 v1 cnt v3 one)[18]? = some v3 := by
  rw [treeCells, List.getElem?_toArray, List.getElem?_cons_succ, List.getElem?_cons_succ, List.getElem?_append_right (by rw [ints_length]; omega)]
  simp [ints_length, h]
theorem treeCells_4 (v0 v1 : Value) (cnt : List Int) (v3 : Value) (one : Bool) (h : cnt.length = 16) : (treeCells v0 v1 cnt v3 one)[19]? = some (.bool one) := by
  rw [treeCells, List.getElem?_toArray, List.getElem?_cons_succ, List.getElem?_cons_succ, List.getElem?_append_right (by rw [ints_length]; omega)]
  simp [ints_length, h]
theorem treeCells_set0 (v0 v1 : Value) (cnt : List Int) (v3 : Value) (one : Bool) (u : Value) : (treeCells v0 v1 cnt v3 one).setIfInBounds 0 u = treeCells u v1 cnt v3 one := by simp [treeCells]
theorem treeCells_setn (v0 v1 : Value) (cnt : List Int) (v3 : Value) (one : Bool) (n : Nat) (x : Int) (h : n < cnt.length) : (treeCells v0 v1 cnt v3 one).setIfInBounds (2 + n) (.int .i64 x) = treeCells v0 v1 (cnt.set n x) v3 one := by
  apply Array.ext'
  simp only [treeCells, Array.toList_setIfInBounds]
  rw [show 2 + n = n + 1 + 1 by omega, List.set_cons_succ, List.set_cons_succ, List.set_append_left _ _ (by rw [ints_length]; omega)]
  simp [ints, List.map_set]
theorem treeCells_set4 (v0 v1 : Value) (cnt : List Int) (v3 : Value) (one one' : Bool) (h : cnt.length = 16) : (treeCells v0 v1 cnt v3 one).setIfInBounds 19 (.bool one') = treeCells v0 v1 cnt v3 one' := by
  apply Array.ext'
  simp only [treeCells, Array.toList_setIfInBounds]
  rw [List.set_cons_succ, List.set_cons_succ, List.set_append_right _ _ (by rw [ints_length]; omega)]
  simp [ints_length, h]

/-- Lengths as bytes. -/
def lens8 (l : List Int) : List Nat := l.map Int.toNat
/-- A Tree behind a pointer. -/
def IsT (w : World) (t : Nat) (F : List Nat) (l : List Int) : Prop :=
  ∃ v0 v1 v3, w.heap[t]? = some (.cells (treeCells v0 v1 (cntT l) v3 (oneV l).2) 80 (0, 0)) ∧ Own w 5 1 v0 l.length (u8s (lens8 l)) ∧ Own w 22 1 v1 l.length (u32s (codesOf l)) ∧
    Own w 3 1 v3 (orderOf l).length (ints (orderOf l)) ∧ F = t :: (v0.ownBlock.toList ++ v1.ownBlock.toList ++ v3.ownBlock.toList) ∧ checkE l = 0 ∧ l.length ≤ 2 ^ 43
theorem IsT.keep {F F' G : List Nat} {w w' : World} {t : Nat} {l : List Int} (h : IsT w t G l) (k : St F F' w w') (hd : ∀ b ∈ G, b ∉ F) : IsT w' t G l := by
  obtain ⟨v0, v1, v3, h1, h2, h3, h4, rfl, h5⟩ := h
  exact ⟨v0, v1, v3, blk_st k (hd t (by simp)) h1, h2.keep k (fun b hb => hd b (by simp [hb])), h3.keep k (fun b hb => hd b (by simp [hb])), h4.keep k (fun b hb => hd b (by simp [hb])), rfl, h5⟩
theorem IsT.lt {w : World} {t : Nat} {F : List Nat} {l : List Int} (h : IsT w t F l) : ∀ b ∈ F, b < w.heap.size := by
  obtain ⟨v0, v1, v3, h1, h2, h3, h4, rfl, h5⟩ := h
  intro b hb
  simp only [List.mem_cons, List.mem_append, Option.mem_toList] at hb
  rcases hb with rfl | (hb | hb) | hb
  · exact blk_lt h1
  · exact (World.ownsRow.lt h2 b hb).2
  · exact (World.ownsRow.lt h3 b hb).2
  · exact (World.ownsRow.lt h4 b hb).2

theorem newtree_bad (w : World) (A : Option Addr) (c : Nat) (l : List Int) (h : Rd w A (ints l)) (hl : l.length ≤ 2 ^ 43) (hbad : checkE l ≠ 0) :
    Calls Tryd.prog 17 #[.slice A l.length c] w fun e w' => e = .returned (.tuple #[.pointer none, .int .i64 (checkE l : Nat)]) ∧ w = w' := by
  have HR := Lib.hid h
  have hb : (((checkE l : Nat) : Int) != 0) = true := by simp; exact hbad
  clear h hbad
  go_enter Tryd.func17, Tryd.ntmps17
  go_wp2_with (go_at_call 26; refine (check_calls _ _ _ _ HR.out (by omega)).mono ?_; rintro e w' ⟨rfl, rfl⟩)
  go_ret2
  exact ⟨rfl, rfl⟩

def TRel (w : World) (t : Nat) (l : List Int) (s1 s3 : Value) (i : Value) (wr : World) : Prop :=
  ∃ (k : Nat) (v0 : Value), k ≤ l.length ∧ i = .int .i64 k ∧ wr.heap[t]? = some (.cells (treeCells v0 s1 (cntL (l.take k)) s3 false) 80 (0, 0)) ∧ Own wr 5 1 v0 k (u8s (lens8 (l.take k))) ∧
    Own wr 22 1 s1 l.length (u32s (codesOf l)) ∧ Own wr 3 1 s3 (orderOf l).length (ints (orderOf l)) ∧ (∀ b, v0.ownBlock = some b → w.heap.size ≤ b) ∧ Below w.heap.size w wr
theorem trel_next (w wr w1 : World) (t : Nat) (l : List Int) (s1 s3 v0 v' : Value) (k m : Nat) (x I C : Int) (hk : k < l.length) (hx : l[k]? = some (m : Int)) (hm : m < 16) (ht : w.heap.size ≤ t)
    (hp : wr.heap[t]? = some (.cells (treeCells v0 s1 (cntL (l.take k)) s3 false) 80 (0, 0))) (ho0 : Own wr 5 1 v0 k (u8s (lens8 (l.take k))))
    (ho1 : Own wr 22 1 s1 l.length (u32s (codesOf l))) (ho3 : Own wr 3 1 s3 (orderOf l).length (ints (orderOf l))) (hb : ∀ b, v0.ownBlock = some b → w.heap.size ≤ b) (hbel : Below w.heap.size w wr)
    (hown : Own w1 5 1 v' (k + 1) (u8s (lens8 (l.take k)) ++ [.int .u8 (m : Int)])) (hg : (wr.alloc (.cells #[.int .u8 (m : Int)] 5)).grownBy w1 v0.ownBlock) (hat : v'.ownBlock = v0.ownBlock ∨ v'.ownBlock = some (wr.heap.size + 1))
    (hC : C = (((l.take k).filter (· == (m : Int))).length : Int) + 1) (hI : I = (k : Int) + 1) :
    TRel w t l s1 s3 (.int .i64 I) ((w1.setCell ⟨t, 0, none⟩ v').setCell ⟨t, 2 + m, none⟩ (.int .i64 C)).drew := by
  subst hC hI
  have hwr : w.heap.size ≤ wr.heap.size := hbel.size
  have hs := take_snoc l k (m : Int) hx
  have hne0 : v0.ownBlock ≠ some t := ho0.ne hp (by decide)
  have hne1 : s1.ownBlock ≠ some t := ho1.ne hp (by decide)
  have hne3 : s3.ownBlock ≠ some t := ho3.ne hp (by decide)
  have hp1 : w1.heap[t]? = some (.cells (treeCells v0 s1 (cntL (l.take k)) s3 false) 80 (0, 0)) := blk_grown hg (fun e => hne0 e.symm) (blk_old hp _)
  have hp2 := blk_set hp1 0 v'
  rw [treeCells_set0] at hp2
  have hp3 := blk_set hp2 (2 + m) (.int .i64 ((((l.take k).filter (· == (m : Int))).length : Int) + 1))
  rw [treeCells_setn _ _ _ _ _ _ _ (by rw [cntL_length]; exact hm), ← cntL_snoc (l.take k) m hm, ← hs] at hp3
  have hv't : v'.ownBlock ≠ some t := hown.ne hp1 (by decide)
  have keep : ∀ (e : TypeId) (v : Value) (n : Nat) (xs : List Value), e ≠ 5 → v.ownBlock ≠ some t → Own wr e 1 v n xs → Own ((w1.setCell ⟨t, 0, none⟩ v').setCell ⟨t, 2 + m, none⟩ (.int .i64 ((((l.take k).filter (· == (m : Int))).length : Int) + 1))) e 1 v n xs := by
    intro e v n xs he hvt h
    have h1 : Own w1 e 1 v n xs := (h.alloc _).kept hg (by
      rcases h.2 with ⟨rfl, _⟩ | ⟨g, cap, cur, rfl, _, hh, _⟩
      · exact .inl rfl
      · right
        have := ho0.ne hh he
        intro e'
        exact this (by rw [← e']; rfl))
    exact (h1.setCell (a := ⟨t, 0, none⟩) hvt _).setCell (a := ⟨t, 2 + m, none⟩) hvt _
  refine ⟨k + 1, v', hk, rfl, hp3, ?_, keep _ _ _ _ (by decide) hne1 ho1, keep _ _ _ _ (by decide) hne3 ho3, ?_, ?_⟩
  · have h1 := (hown.setCell (a := ⟨t, 0, none⟩) hv't v').setCell (a := ⟨t, 2 + m, none⟩) hv't (.int .i64 ((((l.take k).filter (· == (m : Int))).length : Int) + 1))
    rw [hs]
    simpa [u8s, lens8] using h1
  · intro b hb'
    rcases hat with e | e
    · exact hb b (e ▸ hb')
    · rw [hb'] at e
      simp at e
      omega
  · exact ((((hbel.alloc hwr _).grown hg (by simp; omega) hb).setCell (p := ⟨t, 0, none⟩) ht _).setCell (p := ⟨t, 2 + m, none⟩) ht _).drew

set_option maxHeartbeats 1000000 in
theorem newtree_ok (w : World) (A : Option Addr) (c : Nat) (l : List Int) (h : Rd w A (ints l)) (hl : l.length ≤ 2 ^ 43) (hlc : l.length ≤ c) (hok : checkE l = 0) (hs : 2 ≤ many l → SortSaid (many l)) :
    Calls Tryd.prog 17 #[.slice A l.length c] w fun e w' => ∃ t F, e = .returned (.tuple #[.pointer (some ⟨t, 0, none⟩), .int .i64 0]) ∧ IsT w' t F l ∧ St [] F w w' := by
  have hl' : l.length ≤ 8796093022208 := hl
  have hr : inRange l := by
    unfold checkE at hok
    split at hok
    · assumption
    · cases hok
  have hr2 : ∀ x ∈ l, -1099511627776 ≤ x ∧ x ≤ 1099511627776 := fun x hx => by have := hr x hx; omega
  have HR := Lib.hid h
  have HS := Lib.hid hs
  have HK := Lib.hid hok
  have HI := Lib.hid hr
  have HI2 := Lib.hid hr2
  clear hs h hok hr hr2
  go_enter Tryd.func17, Tryd.ntmps17
  go_wp2_with (first
    | (go_at_call 26; refine (check_calls _ _ _ _ HR.out (by omega)).mono ?_; rintro e w' ⟨rfl, rfl⟩; rw [HK.out])
    | (go_at_call 27; refine (codes_calls _ _ _ _ HR.out hl HK.out HS.out).mono ?_; rintro e w1 ⟨v1, rfl, hq1, hq2, hq3⟩; obtain ⟨A1, c1, rfl⟩ := Own.shape hq1; have P1 := Lib.hid hq1; have P2 := Lib.hid hq2; have P3 := Lib.hid hq3; clear hq1 hq2 hq3)
    | (go_at_call 28; refine (order_calls _ _ _ _ (HR.out.below P3.out) hl HI2.out HS.out).mono ?_; rintro e w2 ⟨v3, rfl, hq1, hq2, hq3⟩; obtain ⟨A3, c3, rfl⟩ := Own.shape hq1; have Q1 := Lib.hid hq1; have Q2 := Lib.hid hq2; have Q3 := Lib.hid hq3; clear hq1 hq2 hq3))
  have hs1 := P3.out.size
  have hs2 := Q3.out.size
  have hB2 : Below w.heap.size w w2 := P3.out.trans (Q3.out.mono hs1)
  have ho1 : Own w2 22 1 (.slice A1 l.length c1) l.length (u32s (codesOf l)) := P1.out.keep (St.of_below Q3.out []) (by simp)
  have HB := Lib.hid (hB2.alloc (by omega) (.cells #[.slice none 0 0, .slice A1 l.length c1, .int .i64 0, .int .i64 0, .int .i64 0, .int .i64 0, .int .i64 0, .int .i64 0, .int .i64 0, .int .i64 0, .int .i64 0, .int .i64 0, .int .i64 0, .int .i64 0, .int .i64 0, .int .i64 0, .int .i64 0, .int .i64 0, .slice A3 (orderOf l).length c3, .bool false] 80))
  have H1 := Lib.hid ho1
  have HT : Hid (w.heap.size ≤ w2.heap.size) := by show _ ≤ _; omega
  have HOL : Hid ((orderOf l).length ≤ l.length) := by show _ ≤ _; rw [orderOf_length]; exact many_le l
  clear hB2 ho1 hs1 hs2
  obtain ⟨t, ht⟩ : ∃ t, w2.heap.size = t := ⟨_, rfl⟩
  rw [ht]
  have HTT := Lib.hid ht
  clear ht
  go_loopw [7, 21] (fun n i wr => TRel w t l (.slice A1 l.length c1) (.slice A3 (orderOf l).length c3) i wr) (fun _ i _ => l.length - (intOf i).toNat)
  case atStart =>
    have ht := HTT.out
    subst ht
    exact ⟨0, .slice none 0 0, Nat.zero_le _, rfl, by rw [List.take_zero, cntL_nil]; exact blk_new _ _, World.ownsRow_nil _ _ _ _, World.ownsRow.alloc H1.out _, World.ownsRow.alloc Q1.out _, by simp [Value.ownBlock], HB.out⟩
  case round =>
    obtain ⟨k, v0, hk, rfl, hp, ho0, ho1, ho3, hvb, hbel⟩ := hrel
    by_cases hlt : k < l.length
    · have HRr := HR.out.below hbel
      obtain ⟨b, o, rfl, hb, hc⟩ := rd_int HRr (by omega)
      obtain ⟨x, hx⟩ : ∃ x, l[k]? = some x := ⟨_, List.getElem?_eq_getElem hlt⟩
      have hcx := hc k x hx
      have hxr := HI.out x (List.mem_of_getElem? hx)
      obtain ⟨m, rfl⟩ := Int.eq_ofNat_of_zero_le hxr.1
      have hm : m < 16 := by omega
      have c0 := (blk_cell hp 0).trans (treeCells_0 _ _ _ _ _)
      have hcn := cntL_get (l.take k) m hm
      obtain ⟨cn, hcn2⟩ : ∃ cn, (((l.take k).filter (· == (m : Int))).length : Int) = cn := ⟨_, rfl⟩
      have hcb := cntL_bound (l.take k) m
      have htl : (l.take k).length ≤ l.length := by rw [List.length_take]; omega
      have hcnr : 0 ≤ cn ∧ cn ≤ l.length := by omega
      rw [hcn2] at hcn
      have htb : w.heap.size ≤ t := by rw [← HTT.out]; exact HT.out
      have K0 := Lib.hid ho0
      have K1 := Lib.hid ho1
      have K3 := Lib.hid ho3
      have K4 := Lib.hid hvb
      have K5 := Lib.hid hbel
      have K6 := Lib.hid hp
      have K7 := Lib.hid hx
      have K8 := Lib.hid hcn
      have K9 := Lib.hid hcn2
      clear ho0 ho1 ho3 hvb hbel hp hx hcn hcn2 hc HRr hcb htl hxr
      go_wp2_with (at_builtin; refine wpList_app _ rfl (.tmp 29) (.tmp 32) 23 23 rfl 5 (.int .u8 0) 1 1 Tryd.underlying23 Tryd.info5 rfl (by decide) _ _ _ rfl (World.ownsRow.alloc K0.out _) _ _ _ rfl (Src.ofSlice _ Tryd.underlying23 ⟨wr.heap.size, 0, none⟩ 1 1 [.int .u8 m] rfl (cell_one_new _ _ _) (by simp [Value.oneCell'])) ?_ ?_ ?_)
      · unfold maxLen; omega
      · omega
      intro v' w3 hown hg _ hat
      obtain ⟨A', c', rfl⟩ := Own.shape hown
      have hne0 := Own.ne K0.out K6.out (by decide)
      have hp3 := blk_grown hg (fun e => hne0 e.symm) (blk_old K6.out _)
      have d0 := (blk_cell hp3 0).trans (treeCells_0 _ _ _ _ _)
      have f0 := blk_free hp3 0
      have dn := (blk_cell hp3 (2 + m)).trans (treeCells_cnt _ _ _ _ _ m cn K8.out)
      have fn := blk_free hp3 (2 + m)
      have L1 := Lib.hid hown
      have L2 := Lib.hid hg
      have L3 := Lib.hid hat
      clear hown hg hat hp3 hne0 c0
      go_wp2
      go_region
      go_wp2
      go_roundw
      case rel => exact trel_next w wr w3 t l _ _ v0 _ k m 0 _ _ hlt K7.out hm htb K6.out K0.out K1.out K3.out K4.out K5.out L1.out L2.out (by simpa using L3.out) (by rw [K9.out]) rfl
      case measure => simp [intOf]; omega
    · obtain rfl : k = l.length := by omega
      rw [List.take_length] at hp ho0
      have htb : w.heap.size ≤ t := by rw [← HTT.out]; exact HT.out
      obtain ⟨z, hz⟩ : ∃ z, (cntL l)[0]? = some z := ⟨_, List.getElem?_eq_getElem (by rw [cntL_length]; decide)⟩
      have c2 := (blk_cell hp (2 + 0)).trans (treeCells_cnt _ _ _ _ _ 0 z hz)
      have f2 := blk_free hp 2
      have c19 := (blk_cell hp 19).trans (treeCells_4 _ _ _ _ _ (cntL_length l))
      have f19 := blk_free hp 19
      have hB' := hbel.setCell (p := ⟨t, 2, none⟩) htb (.int .i64 0)
      have HRb := Lib.hid (HR.out.below hB')
      have HL43 : Hid (l.length ≤ 2 ^ 44) := by show _ ≤ _; omega
      have K0 := Lib.hid ho0
      have K1 := Lib.hid ho1
      have K3 := Lib.hid ho3
      have K4 := Lib.hid hvb
      have K5 := Lib.hid hB'
      have K6 := Lib.hid hp
      have K2 := Lib.hid htb
      clear ho0 ho1 ho3 hvb hbel hp hz hB' htb
      go_wp2_with (go_at_call 29; refine (one_lens _ _ _ _ HRb.out HL43.out hlc).mono ?_; rintro e w' ⟨rfl, q, rfl⟩)
      go_ret2
      have hp2 := blk_set K6.out (2 + 0) (.int .i64 0)
      rw [treeCells_setn _ _ _ _ _ 0 0 (by rw [cntL_length]; decide)] at hp2
      have hp3 := blk_set (w := (wr.setCell ⟨t, 2, none⟩ (.int .i64 0)).drewN q) hp2 19 (.bool (oneV l).2)
      rw [treeCells_set4 _ _ _ _ _ _ (by rw [List.length_set, cntL_length])] at hp3
      have n0 := Own.ne K0.out K6.out (by decide)
      have n1 := Own.ne K1.out K6.out (by decide)
      have n3 := Own.ne K3.out K6.out (by decide)
      refine ⟨t, _, rfl, ⟨v0, _, _, hp3, ?_, ?_, ?_, rfl, HK.out, hl⟩, ?_⟩
      · exact Own.setCell (w := (wr.setCell ⟨t, 2, none⟩ (.int .i64 0)).drewN q) (a := ⟨t, 19, none⟩) (Own.setCell K0.out (a := ⟨t, 2, none⟩) n0 _) n0 _
      · exact Own.setCell (w := (wr.setCell ⟨t, 2, none⟩ (.int .i64 0)).drewN q) (a := ⟨t, 19, none⟩) (Own.setCell K1.out (a := ⟨t, 2, none⟩) n1 _) n1 _
      · exact Own.setCell (w := (wr.setCell ⟨t, 2, none⟩ (.int .i64 0)).drewN q) (a := ⟨t, 19, none⟩) (Own.setCell K3.out (a := ⟨t, 2, none⟩) n3 _) n3 _
      · have hb := (pw_drewN K5.out q).setCell (p := ⟨t, 19, none⟩) K2.out (.bool (oneV l).2)
        refine ⟨hb.os, hb.tape, hb.output, hb.size, fun k hk _ => hb.block k hk, ?_⟩
        intro b hb'
        simp only [List.mem_cons, List.mem_append, Option.mem_toList] at hb'
        right
        have hs1 := P3.out.size
        rcases hb' with rfl | (hb' | hb') | hb'
        · exact K2.out
        · exact K4.out b hb'
        · exact P2.out b hb'
        · exact Nat.le_trans hs1 (Nat.le_of_lt (Q2.out b hb'))
end Go.Proofs.YtdklkecoailekaaDoor
