/- code.Codes. -/
import Derived.Test.YtdklkecoailekaaDoorOrder
import Derived.Test.YtdklkecoailekaaDoorPCodes
import Derived.Deep.OwnRows
set_option linter.unusedVariables false
namespace Go.Proofs.YtdklkecoailekaaDoor
open Go.RowKit Go Go.Shelf Go.Proofs.YtdklkecoailekaaDoorW Mq

theorem Tryd.info22 : (Tryd.prog.info? 22).map (fun i => (i.zero, i.size, i.bytes)) = some (some (.int .u32 0), 1, 4) := by kernel_rfl
def u32s (bs : List Nat) : List Value := bs.map fun b : Nat => Value.int .u32 (b : Int)
theorem u32s_length (bs : List Nat) : (u32s bs).length = bs.length := by simp [u32s]
theorem u32s_one (bs : List Nat) : ∀ u ∈ u32s bs, u.oneCell' = true := by
  intro u hu
  obtain ⟨b, _, rfl⟩ := List.mem_map.1 hu
  rfl

theorem own_made (w : World) (e : TypeId) (z : Value) (n : Nat) (hn : n ≤ maxLen) : Own (w.alloc (.cells (madeCells #[z] n) e)) e 1 (.slice (some ⟨w.heap.size, 0, none⟩) n n) n (List.replicate n z) := by
  refine ⟨by simp, .inr ⟨w.heap.size, n, _, rfl, Nat.zero_le _, blk_new _ _, Nat.le_refl _, hn, by simp [size_madeCells], ?_⟩⟩
  rw [toList_madeCells_one, Nat.mul_one, List.take_of_length_le (by simp)]

def CRel (w : World) (l : List Int) (v : Value) (next last i : Value) (wr : World) : Prop :=
  ∃ k : Nat, k ≤ (orderOf l).length ∧ i = .int .i64 k ∧ next = .int .u32 ((csAt l k).next : Nat) ∧ last = .int .i64 (csAt l k).last ∧
    Own wr 22 1 (.slice (some ⟨w.heap.size, 0, none⟩) l.length l.length) l.length (u32s (csAt l k).out) ∧ Own wr 3 1 v (orderOf l).length (ints (orderOf l)) ∧ Below w.heap.size w wr

theorem shl_cast (n e : Nat) : ((n : Int) + 1) % 4294967296 * 2 ^ e % 4294967296 = (((n + 1) % 4294967296 * 2 ^ e % 4294967296 : Nat) : Int) := by
  rw [Int.natCast_emod, Int.natCast_mul, Int.natCast_emod, Int.natCast_pow]
  rfl

theorem crel_next (w wr : World) (l : List Int) (v : Value) (k m n : Nat) (N y I : Int) (hk : k < (orderOf l).length) (hm : m < l.length) (hnext : csAt l (k + 1) = ⟨false, n, y, (csAt l k).out.set m n⟩) (hN : N = (n : Int)) (hI : I = (k : Int) + 1)
    (hown : Own wr 22 1 (.slice (some ⟨w.heap.size, 0, none⟩) l.length l.length) l.length (u32s (csAt l k).out)) (hord : Own wr 3 1 v (orderOf l).length (ints (orderOf l))) (hbel : Below w.heap.size w wr) :
    CRel w l v (.int .u32 N) (.int .i64 y) (.int .i64 I) (wr.setCell ⟨w.heap.size, m, none⟩ (.int .u32 N)) := by
  subst hN hI
  refine ⟨k + 1, hk, rfl, by rw [hnext], by rw [hnext], ?_, ?_, hbel.setCell (Nat.le_refl _) _⟩
  · have := hown.store m (.int .u32 (n : Int)) hm
    rw [hnext]
    simpa [u32s, List.map_set] using this
  · refine hord.setCell ?_ _
    rcases hown.2 with ⟨h1, _⟩ | ⟨g, cap, cur, h1, _, h3, _⟩
    · cases h1
    · injection h1 with h1 _ _
      injection h1 with h1
      injection h1 with h1 _ _
      exact hord.ne (h1 ▸ h3) (by decide)

set_option maxHeartbeats 1000000 in
theorem codes_calls (w : World) (A : Option Addr) (c : Nat) (l : List Int) (h : Rd w A (ints l)) (hl : l.length ≤ 2 ^ 43) (hok : checkE l = 0) (hs : 2 ≤ many l → SortSaid (many l)) :
    Calls Tryd.prog 27 #[.slice A l.length c] w fun e w' => ∃ v, e = .returned v ∧ Own w' 22 1 v l.length (u32s (codesOf l)) ∧ (∀ b, v.ownBlock = some b → w.heap.size ≤ b) ∧ Below w.heap.size w w' := by
  have hl' : l.length ≤ 8796093022208 := hl
  have hr : inRange l := by
    unfold checkE at hok
    split at hok
    · assumption
    · cases hok
  have hr2 : ∀ x ∈ l, -1099511627776 ≤ x ∧ x ≤ 1099511627776 := fun x hx => by have := hr x hx; omega
  have HR := Lib.hid h
  have HS := Lib.hid hs
  have HK := Lib.hid hok
  have HI := Lib.hid hr
  have HI2 := Lib.hid hr2
  clear hs h hok hr hr2
  have hmk := run_make_row' (P := Tryd.prog) 75 22 (.int .u32 0) 4 Tryd.underlying75 Tryd.info22 rfl .i64 .i64 l.length (by omega) (by omega)
  have HB0 : Hid (Below w.heap.size w (w.alloc (.cells (madeCells #[.int .u32 0] l.length) 22))) := (Below.refl _ _).alloc (Nat.le_refl _) _
  go_enter Tryd.func27, Tryd.ntmps27
  go_wp2_with (first
    | (go_at_call 26; refine (check_calls _ _ _ _ HR.out (by omega)).mono ?_; rintro e w' ⟨rfl, rfl⟩; rw [HK.out])
    | (go_at_call 28; refine (order_calls _ _ _ _ (HR.out.below HB0.out) hl HI2.out HS.out).mono ?_; rintro e w1 ⟨v, rfl, ho, hvb, hbel⟩; obtain ⟨A2, c2, rfl⟩ := Own.shape ho; have Q1 := Lib.hid ho; have Q2 := Lib.hid hvb; have Q3 := Lib.hid hbel; clear ho hvb hbel))
  have hsz : w.heap.size + 1 ≤ w1.heap.size := by have := Q3.out.size; simpa using this
  have hB1 : Below w.heap.size w w1 := HB0.out.trans (Q3.out.mono (by simp))
  have hout : Own w1 22 1 (.slice (some ⟨w.heap.size, 0, none⟩) l.length l.length) l.length (List.replicate l.length (.int .u32 0)) :=
    (own_made w 22 (.int .u32 0) l.length (by unfold maxLen; omega)).keep (St.of_below Q3.out []) (by simp)
  have HB1 := Lib.hid hB1
  have HO := Lib.hid hout
  have HOL := Lib.hid (orderOf_length l)
  have hml := many_le l
  have holen : (orderOf l).length ≤ l.length := by rw [HOL.out]; exact hml
  clear hB1 hout
  go_loopw [4, 5, 17] (fun nx la i wr => CRel w l (.slice A2 (orderOf l).length c2) nx la i wr) (fun _ _ i _ => (orderOf l).length - (intOf i).toNat)
  case atStart => exact ⟨0, Nat.zero_le _, rfl, rfl, rfl, by simpa [csAt_zero, u32s] using HO.out, Q1.out, HB1.out⟩
  case round =>
    obtain ⟨k, hk, rfl, rfl, rfl, hown, hord, hbel⟩ := hrel
    obtain ⟨z1, z2, z3, z4⟩ := csAt_ok l k hk
    by_cases hlt : k < (orderOf l).length
    · obtain ⟨g, cap, hA, hform⟩ := World.ownsRow.form hord (by omega)
      injection hA with hA _ hcc
      subst hA
      obtain ⟨x, hx⟩ : ∃ x, (orderOf l)[k]? = some x := ⟨_, List.getElem?_eq_getElem hlt⟩
      have hxm := orderOf_mem l x (List.mem_of_getElem? hx)
      obtain ⟨m, rfl⟩ := Int.eq_ofNat_of_zero_le hxm.1
      have hm : m < l.length := by omega
      have HRr := HR.out.below hbel
      obtain ⟨b, o, rfl, hb, hc⟩ := rd_int HRr (by omega)
      obtain ⟨y, hy⟩ : ∃ y, l[m]? = some y := ⟨_, List.getElem?_eq_getElem hm⟩
      have hcy := hc m y hy
      have hyr := HI.out y (List.mem_of_getElem? hy)
      have hlx : lenAt l m = y := by simp [lenAt, hy]
      have cord : wr.cell? ⟨g, k, none⟩ = some (.int .i64 (m : Int)) := by
        rw [World.ownsRow.cellAt hord k (by omega)]; simp [ints, hx]
      obtain ⟨u, hu⟩ : ∃ u, (csAt l k).out[m]? = some u := ⟨_, List.getElem?_eq_getElem (by omega)⟩
      have cout : wr.cell? ⟨w.heap.size, m, none⟩ = some (.int .u32 (u : Int)) := by
        rw [World.ownsRow.cellAt hown m (by omega)]; simp [u32s, hu]
      have fout := World.ownsRow.frozenAt hown m
      have hnext := csAt_succ l k m hx
      have hlast := csAt_last l k m hx
      obtain ⟨nx, hnx⟩ : ∃ nx, (csAt l k).next = nx := ⟨_, rfl⟩
      obtain ⟨la, hla⟩ : ∃ la, (csAt l k).last = la := ⟨_, rfl⟩
      have hlar : 0 < k → 0 ≤ la ∧ la ≤ y := by
        intro hk0
        obtain ⟨x', hx'⟩ : ∃ x', (orderOf l)[k - 1]? = some x' := ⟨_, List.getElem?_eq_getElem (by omega)⟩
        have h1 := csAt_last l (k - 1) x' hx'
        rw [show k - 1 + 1 = k by omega, hla] at h1
        have h2 := order_rise l (k - 1) x' m hx' (by rw [show k - 1 + 1 = k by omega]; exact hx)
        rw [hlx, ← h1] at h2
        have h3 := (orderOf_mem l x' (List.mem_of_getElem? hx')).2.2
        refine ⟨?_, h2⟩
        rw [h1]
        unfold lenAt
        omega
      have hne : ¬ w.heap.size = b := by
        intro e
        rcases HR.out with h0 | ⟨b', o', hA', hb', _⟩
        · have := ints_length l
          rw [h0] at this
          simp at this
          omega
        · injection hA' with hA'
          injection hA' with hA' _ _
          omega
      simp only [cstep] at hnext
      rw [z1, hnx, hla, hlx] at hnext
      rw [hnx] at z2 ⊢
      rw [hla]
      have L1 := Lib.hid hnext
      have L2 := Lib.hid hlast
      have L3 := Lib.hid hown
      have L4 := Lib.hid hord
      have L5 := Lib.hid hbel
      have L6 := Lib.hid hlx
      have L7 := Lib.hid z3
      have L8 := Lib.hid z4
      have L9 := Lib.hid hnx
      clear hnext hlast hown hord hbel hlx z1 z3 z4 hx hy hu hc hnx HRr hla hxm
      by_cases hk0 : 0 < k
      · obtain ⟨hla0, hla1⟩ := hlar hk0
        go_wp2
        go_roundw
        case rel =>
          have hn := L1.out
          rw [show (k == 0) = false by simp; omega] at hn
          exact crel_next w wr l _ k m ((nx + 1) % 4294967296 * 2 ^ (y - la).toNat % 4294967296) _ y _ hlt hm hn (shl_cast _ _) rfl L3.out L4.out L5.out
        case measure => simp [intOf]; omega
      · obtain rfl : k = 0 := by omega
        go_wp2
        go_roundw
        case rel =>
          have hn := L1.out
          exact crel_next w wr l _ 0 m nx _ y _ hlt hm hn rfl (by simp) L3.out L4.out L5.out
        case measure => simp [intOf]; omega
    · obtain rfl : k = (orderOf l).length := by omega
      go_wp2
      go_ret
      exact ⟨_, rfl, hown, by simp [Value.ownBlock], hbel⟩
end Go.Proofs.YtdklkecoailekaaDoor
