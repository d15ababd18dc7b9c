/- Words for rows: a slice of whole numbers that came in, as the walks read it. -/
import Derived.Test.YtfegklafpjdemaaGreatDoorWd
import Derived.ChangeSlices
import Derived.ProofKit
import Derived.OpenShut
import Derived.SizedLaws
set_option linter.unusedVariables false
namespace Go.Proofs.YtfegklafpjdemaaGreatDoorW
open Go Go.RowKit Go.ChangeShapes Go.WideShapes

theorem rd_ints {H : Type} {enc : TypeId × Value → H} {P : Program} {W : World} {t e : TypeId} {k : IntKind} {A : Option Addr} {n c : Nat} {d : DataW H} {ps : List MemPlace}
    (ht : P.underlying t = some (.slice e)) (he : P.underlying e = some (.int k)) (hc : P.cellsOf e = 1) (h : DataW.Trod enc P W 0 (fun _ => true) true t (.slice A n c) d ps) :
    ∃ zs : List Int, zs.length = n ∧ Rd W A (zs.map fun z => Value.int k z) ∧ (∀ z ∈ zs, (Lit.int k z).wf = true) ∧ (∀ x ∈ ps, x.block < W.heap.size) := by
  have hlt : ∀ x ∈ ps, x.block < W.heap.size := by
    obtain ⟨m, hm⟩ := h
    exact DataW.trod_lt m _ _ _ hm
  obtain ⟨fuel, hf⟩ := h
  rcases open_ints ht he hc hf with ⟨hcs, _⟩ | ⟨a, l, cap, zs, hcs, hb, hl, hm, hz, hx, hcell, hwz⟩
  · simp [Value.cells] at hcs
    obtain ⟨rfl, rfl, rfl⟩ := hcs
    exact ⟨[], rfl, .inl rfl, by simp, hlt⟩
  · simp [Value.cells] at hcs
    obtain ⟨rfl, rfl, rfl⟩ := hcs
    have hz' : zs.length = c := by simpa using hz
    refine ⟨zs.take n, by simp; omega, ?_, fun z hzz => hwz z (List.mem_of_mem_take hzz), hlt⟩
    by_cases hn : n = 0
    · left
      subst hn
      simp
    · right
      have c0 := hcell 0 (by omega)
      have ha : a.add 0 = a := by simp [Addr.add]
      rw [ha] at c0
      obtain ⟨b, o, sp⟩ := a
      have hs : sp = none := by
        cases sp with
        | none => rfl
        | some s =>
          exfalso
          unfold World.cell? at c0
          split at c0
          · simp at c0
          · cases c0
      subst hs
      have hbl : b < W.heap.size := by
        rcases Nat.lt_or_ge b W.heap.size with h | h
        · exact h
        · exfalso
          unfold World.cell? at c0
          rw [Array.getElem?_eq_none h] at c0
          cases c0
      refine ⟨b, o, rfl, hbl, fun j u hj => ?_⟩
      obtain ⟨hjl, hju⟩ := List.getElem?_eq_some_iff.1 hj
      simp at hjl
      have cj := hcell j (by omega)
      have e2 : (⟨b, o, none⟩ : Addr).add j = ⟨b, o + j, none⟩ := by
        unfold Addr.add
        split
        · rename_i h0; subst h0; rfl
        · rfl
      rw [e2] at cj
      rw [cj, ← hju, List.getD, List.getElem?_eq_getElem (show j < zs.length by omega)]
      simp
end Go.Proofs.YtfegklafpjdemaaGreatDoorW
