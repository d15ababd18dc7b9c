/- Slices of bytes, as lists of numbers. -/
import Derived.Test.YtfegklafpjdemaaGreatDoorChecked
import Derived.Test.YtfegklafpjdemaaGreatDoorWd
set_option linter.unusedVariables false
namespace Go.Proofs.YtfegklafpjdemaaGreatDoor
open Go.RowKit Go Go.Proofs.YtfegklafpjdemaaGreatDoorW

theorem Tryz.info5 : (Tryz.prog.info? 5).map (fun i => (i.zero, i.size, i.bytes)) = some (some (.int .u8 0), 1, 1) := by kernel_rfl

def u8s (bs : List Nat) : List Value := bs.map fun b : Nat => Value.int .u8 (b : Int)
theorem u8s_length (bs : List Nat) : (u8s bs).length = bs.length := by simp [u8s]
theorem u8s_one (bs : List Nat) : ∀ u ∈ u8s bs, u.oneCell' = true := by
  intro u hu
  obtain ⟨b, _, rfl⟩ := List.mem_map.1 hu
  rfl
/-- One cell of a slice of bytes that is read. -/
theorem rd_u8 {w : World} {A : Option Addr} {xs : List Nat} (h : Rd w A (u8s xs)) (hne : 0 < xs.length) : ∃ b o, A = some ⟨b, o, none⟩ ∧ b < w.heap.size ∧ ∀ (j : Nat), j < xs.length → w.cell? ⟨b, o + j, none⟩ = some (.int .u8 (xs.getD j 0 : Nat)) := by
  obtain ⟨b, o, hA, hb, hc⟩ := h.at_ (by intro e; have := u8s_length xs; rw [e] at this; simp at this; omega)
  refine ⟨b, o, hA, hb, fun j hj => hc j _ ?_⟩
  simp [u8s, hj]
end Go.Proofs.YtfegklafpjdemaaGreatDoor
