/- The writer and the reader of bits: contracts. -/
import Derived.Test.YtdklkecoailekaaDoorChecked
import Derived.Test.YtdklkecoailekaaDoorWd
import Derived.Test.YtdklkecoailekaaDoorPRead
import Derived.Laws.BitsAllLaws
set_option linter.unusedVariables false
namespace Go.Proofs.YtdklkecoailekaaDoor
open Go.RowKit Go Go.Proofs.YtdklkecoailekaaDoorW Mq

theorem Tryd.info5 : (Tryd.prog.info? 5).map (fun i => (i.zero, i.size, i.bytes)) = some (some (.int .u8 0), 1, 1) := by kernel_rfl

def u8s (bs : List Nat) : List Value := bs.map fun b : Nat => Value.int .u8 (b : Int)
theorem u8s_length (bs : List Nat) : (u8s bs).length = bs.length := by simp [u8s]
theorem u8s_one (bs : List Nat) : ∀ u ∈ u8s bs, u.oneCell' = true := by
  intro u hu
  obtain ⟨b, _, rfl⟩ := List.mem_map.1 hu
  rfl

/-- A writer behind a pointer: its bits. -/
def IsW (w : World) (p : Nat) (F : List Nat) (bits : List Bool) : Prop :=
  ∃ v, w.heap[p]? = some (.cells #[v, .int .i64 (bits.length : Nat)] 65 (0, 0)) ∧ Own w 5 1 v (pack bits).length (u8s (pack bits)) ∧ F = p :: v.ownBlock.toList

theorem or_bit (y x k : Nat) (hy : y < 256) (hk : k < 8) : bits BinOp.or IntKind.u8 (y : Int) (bits BinOp.and IntKind.u32 ((x % 4294967296 : Nat) : Int) 1 % 256 * 2 ^ k % 256) = ((y ||| b2n (x % 2 == 1) * 2 ^ k : Nat) : Int) := by
  have h1 : bits BinOp.and IntKind.u32 ((x % 4294967296 : Nat) : Int) 1 = ((x % 4294967296 &&& 1 : Nat) : Int) := u32_and_nat _ 1 (Nat.mod_lt _ (by decide)) (by decide)
  have h2 : x % 4294967296 &&& 1 = b2n (x % 2 == 1) := by
    rw [Nat.and_one_is_mod, Nat.mod_mod_of_dvd _ (by decide)]
    rcases Nat.mod_two_eq_zero_or_one x with h | h <;> simp [h, b2n]
  have hb := b2n_le (x % 2 == 1)
  have hp : 2 ^ k ≤ 128 := Nat.pow_le_pow_right (n := 2) (by decide) (show k ≤ 7 by omega)
  have h3 : b2n (x % 2 == 1) * 2 ^ k < 256 := Nat.lt_of_le_of_lt (Nat.mul_le_mul hb hp) (by decide)
  rw [h1, h2, show ((b2n (x % 2 == 1) : Nat) : Int) % 256 * 2 ^ k % 256 = ((b2n (x % 2 == 1) * 2 ^ k : Nat) : Int) by
    rw [Int.emod_eq_of_lt (a := ((b2n (x % 2 == 1) : Nat) : Int)) (by omega) (by omega)]
    rw [show ((2 : Int) ^ k) = ((2 ^ k : Nat) : Int) by simp]
    rw [← Int.natCast_mul, Int.emod_eq_of_lt (by omega) (by omega)]]
  exact u8_or_nat _ _ hy h3

theorem one_old (w : World) (p : Nat) (F : List Nat) (bits : List Bool) (x : Nat) (h : IsW w p F bits) (hn : bits.length % 8 ≠ 0) (hb : bits.length ≤ 2 ^ 40) (hx : x < 4294967296) :
    Calls Tryd.prog 38 #[.pointer (some ⟨p, 0, none⟩), .int .u32 x] w fun e w' => e = .returned (.tuple #[]) ∧
      ∃ F', IsW w' p F' (bits ++ [x % 2 == 1]) ∧ St F F' w w' := by
  obtain ⟨v, hp, hv, rfl⟩ := h
  obtain ⟨n, hnl⟩ : ∃ n, bits.length = n := ⟨_, rfl⟩
  have hpl := pack_length bits
  obtain ⟨g, cap, rfl, hform⟩ := World.ownsRow.form hv (by rw [hpl]; omega)
  have hold := pack_snoc_old bits (x % 2 == 1) hn
  have hy := pack_get bits (bits.length / 8) (by omega)
  have hy8 := packN_lt bits (bits.length / 8)
  have hbit := or_bit (packN bits (bits.length / 8)) x (bits.length % 8) hy8 (by omega)
  rw [Nat.mod_eq_of_lt hx] at hbit
  rw [hnl] at hpl hp hold hy hy8 hbit hn hb
  generalize hyy : packN bits (n / 8) = y at hold hy hy8 hbit
  have c0 := blk_cell hp 0
  have c1 := blk_cell hp 1
  have f1 := blk_free hp 1
  simp at c0 c1
  have hne := hv.ne hp (by decide)
  simp [Value.ownBlock] at hne
  have cb : w.cell? ⟨g, n / 8, none⟩ = some (.int .u8 (y : Int)) := by
    rw [hv.cellAt (n / 8) (by rw [hpl]; omega)]; simp [u8s, hy]
  have fb := hv.frozenAt (n / 8)
  have hidx : n / 8 < (pack bits).length := by rw [hpl]; omega
  have t0 : ((n : Int).tmod 8 == 0) = false := by
    rw [Int.tmod_eq_emod_of_nonneg (by omega)]; simp; omega
  have H1 := Lib.hid hbit
  have H2 := Lib.hid hold
  have H3 := Lib.hid hnl
  have H4 := Lib.hid hpl
  have H5 := Lib.hid hp
  have H6 := Lib.hid hyy
  have H7 := Lib.hid hy
  clear hbit hold hnl hpl hp hyy hy
  go_enter Tryd.func38, Tryd.ntmps38
  go_wp2
  go_region
  go_wp2
  go_end0
  have hnl := H3.out
  rw [H1.out]
  refine ⟨rfl, _, ⟨.slice (some ⟨g, 0, none⟩) (pack bits).length cap, ?_, ?_, rfl⟩, ?_⟩
  · refine (blk_set (w := w.setCell ⟨g, n / 8, none⟩ _) (b := p) ((blk_other (by simp; omega) _).trans H5.out) 1 _).trans ?_
    simp [hnl]
  · have h2 := (hv.store (n / 8) (.int .u8 ((y ||| b2n (x % 2 == 1) * 2 ^ (n % 8) : Nat) : Int)) hidx).setCell (a := ⟨p, 1, none⟩) (by simp [Value.ownBlock, hne]) (.int .i64 (n + 1))
    rw [H2.out, List.length_set]
    refine Own.drew_iff.2 ?_
    simpa [u8s, List.map_set] using h2
  · exact (((St.refl _ w).setCell (p := ⟨g, n / 8, none⟩) (by simp [Value.ownBlock]) _).setCell (p := ⟨p, 1, none⟩) (by simp) _).drew

theorem one_new (w : World) (p : Nat) (F : List Nat) (bits : List Bool) (x : Nat) (h : IsW w p F bits) (hn : bits.length % 8 = 0) (hb : bits.length ≤ 2 ^ 40) (hx : x < 4294967296) :
    Calls Tryd.prog 38 #[.pointer (some ⟨p, 0, none⟩), .int .u32 x] w fun e w' => e = .returned (.tuple #[]) ∧
      ∃ F', IsW w' p F' (bits ++ [x % 2 == 1]) ∧ St F F' w w' := by
  obtain ⟨v, hp, hv, rfl⟩ := h
  obtain ⟨n, hnl⟩ : ∃ n, bits.length = n := ⟨_, rfl⟩
  have hpl := pack_length bits
  have hnew := pack_snoc_new bits (x % 2 == 1) hn
  have hbit := or_bit 0 x 0 (by decide) (by omega)
  rw [Nat.mod_eq_of_lt hx] at hbit
  simp at hbit
  rw [hnl] at hpl hp hn hb
  have hm : n / 8 = (pack bits).length := by rw [hpl]; omega
  have c0 := blk_cell hp 0
  have c1 := blk_cell hp 1
  have f0 := blk_free hp 0
  simp at c0 c1
  have hne := hv.ne hp (by decide)
  have hplt := blk_lt hp
  have t0 : ((n : Int).tmod 8 == 0) = true := by
    rw [Int.tmod_eq_emod_of_nonneg (by omega)]; simp; omega
  generalize hpk : pack bits = bs at *
  have H1 := Lib.hid hbit
  have H2 := Lib.hid hnew
  have H3 := Lib.hid hnl
  have H4 := Lib.hid hpl
  have H5 := Lib.hid hp
  have H6 := Lib.hid hm
  have H7 := Lib.hid hv
  have H8 := Lib.hid hne
  have H9 := Lib.hid hpk
  clear hbit hnew hnl hpl hp hm hv hne hpk
  go_enter Tryd.func38, Tryd.ntmps38
  go_wp2_with (at_builtin; refine wpList_app _ rfl (.tmp 14) (.tmp 15) 23 23 rfl 5 (.int .u8 0) 1 1 Tryd.underlying23 Tryd.info5 rfl (by decide) _ _ _ rfl (World.ownsRow.alloc H7.out _) _ _ _ rfl (Src.ofSlice _ Tryd.underlying23 ⟨w.heap.size, 0, none⟩ 1 1 [.int .u8 0] rfl (cell_one_new _ _ _) (by simp [Value.oneCell'])) ?_ ?_ ?_)
  · have := H4.out; unfold maxLen; omega
  · have := H4.out; omega
  intro v' w1 hown hg _ hat
  have hpl := H4.out
  have hm := H6.out
  have hp1 := blk_grown hg (fun e => H8.out e.symm) (blk_old H5.out _)
  obtain ⟨g, cap, rfl, hform⟩ := World.ownsRow.form hown (by omega)
  have hgp : ¬ g = p := by
    have := hown.ne hp1 (by decide)
    simpa [Value.ownBlock] using this
  have f0 := blk_free hp1 0
  have c00 := blk_cell hp1 0
  simp at c00
  have hp2 := blk_set hp1 0 (.slice (some ⟨g, 0, none⟩) (bs.length + 1) cap)
  simp at hp2
  have hown2 := Own.setCell hown (a := ⟨p, 0, none⟩) (by simp [Value.ownBlock, hgp]) (.slice (some ⟨g, 0, none⟩) (bs.length + 1) cap)
  have d1 := blk_cell hp1 1
  have e1 := blk_free hp1 1
  simp at d1
  have cb := World.ownsRow.cellAt hown (n / 8) (by omega)
  rw [hm, u8s, List.getElem?_append_right (by simp)] at cb
  simp at cb
  rw [← hm] at cb
  have fb := World.ownsRow.frozenAt hown (n / 8)
  have hidx : n / 8 < bs.length + 1 := by omega
  have K1 := Lib.hid hown2
  have K2 := Lib.hid hp2
  have K3 := Lib.hid hg
  have K4 := Lib.hid hat
  clear hown hg hat hp1 hown2 hp2 hm hpl
  go_wp2
  go_region
  go_wp2
  go_end0
  rw [H1.out]
  have hnl := H3.out
  have hm := H6.out
  refine ⟨rfl, _, ⟨.slice (some ⟨g, 0, none⟩) (bs.length + 1) cap, ?_, ?_, rfl⟩, ?_⟩
  · refine (blk_set (w := World.setCell _ ⟨g, n / 8, none⟩ _) (b := p) ((blk_other (by simp; omega) _).trans K2.out) 1 _).trans ?_
    simp [hnl]
  · have h2 := (K1.out.store (n / 8) (.int .u8 ((b2n (x % 2 == 1) : Nat) : Int)) (by omega)).setCell (a := ⟨p, 1, none⟩) (by simp [Value.ownBlock, hgp]) (.int .i64 (n + 1))
    rw [H2.out, List.length_append]
    refine Own.drew_iff.2 ?_
    rw [hm] at h2
    simpa [u8s, hm] using h2
  · have s1 : St (p :: (v.ownBlock.toList)) _ w w1 := St.grown (v' := .slice (some ⟨g, 0, none⟩) (bs.length + 1) cap) ((St.refl _ w).alloc _) K3.out (by intro k hk; simp [hk]) (by simpa using K4.out)
    have s2 := ((s1.setCell (p := ⟨p, 0, none⟩) (by simp) (.slice (some ⟨g, 0, none⟩) (bs.length + 1) cap)).setCell (p := ⟨g, n / 8, none⟩) (by simp [Value.ownBlock]) (.int .u8 ((b2n (x % 2 == 1) : Nat) : Int))).setCell (p := ⟨p, 1, none⟩) (by simp) (.int .i64 (n + 1))
    exact (s2.less (by intro k hk; simp [Value.ownBlock] at hk ⊢; omega)).drew
end Go.Proofs.YtdklkecoailekaaDoor
