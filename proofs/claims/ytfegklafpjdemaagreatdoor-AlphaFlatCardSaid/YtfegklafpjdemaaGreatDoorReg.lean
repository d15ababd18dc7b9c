/- A drawn region whose last operation waits for all the others: what holds of the world is asked behind every operation but the last one. -/
import Derived.OrdersHeld
import Derived.StillTail
import Derived.Deep.RegionHeld3
set_option linter.unusedVariables false
namespace Go.Proofs.YtfegklafpjdemaaGreatDoorW
open Go

section
variable {P : Program} {ops : Array Oper} {Q : Exit → Act → World → Prop} {md : Region.Mode} {S : World → Prop} {n : Nat}

/-- Whatever order is picked from here on; S is asked behind every operation but number n. -/
def AnyT (P : Program) (md : Region.Mode) (ops : Array Oper) (Q : Exit → Act → World → Prop) (S : World → Prop) (n : Nat) : Nat → Array Bool → Act → World → Prop
  | 0, listed, a, w => Region.ready md ops listed = [] ∧ Q .normal a w
  | f + 1, listed, a, w => (Region.ready md ops listed = [] → Q .normal a w) ∧
    ∀ i ∈ Region.ready md ops listed, wpOp P ops Q i (fun a' w' => (i ≠ n → S w') ∧ AnyT P md ops Q S n f (listed.setIfInBounds i true) a' w') a w
theorem AnyT.any : ∀ (f : Nat) (listed : Array Bool) (a : Act) (w : World), AnyT P md ops Q S n f listed a w → wpAny P md ops Q f listed a w
  | 0, _, _, _, h => h
  | f + 1, _, _, _, h => ⟨h.1, fun i hi => wpOp_mono (fun a' w' k => AnyT.any f _ a' w' k.2) (h.2 i hi)⟩
/-- The listed ones are closed under what they wait for; nothing from n on is listed. -/
def headB (md : Region.Mode) (ops : Array Oper) (n : Nat) (listed : Array Bool) : Bool :=
  decide (listed.size = ops.size) && (List.range ops.size).all (fun j => match ops[j]? with
    | some o => !(listed.getD j false) || o.after.all fun e => !(Region.binds md e) || listed.getD e.on false
    | none => true) && (List.range ops.size).all fun t => decide (t < n) || !(listed.getD t true)
theorem headB_spec {listed : Array Bool} (h : headB md ops n listed = true) : HeadInv md ops n listed := by
  unfold headB at h
  simp only [Bool.and_eq_true, decide_eq_true_eq] at h
  obtain ⟨⟨h1, h2⟩, h3⟩ := h
  refine ⟨h1, fun j oj hj hl e he hb => ?_, fun t ht htn => ?_⟩
  · have k := List.all_eq_true.1 h2 j (List.mem_range.2 (Array.getElem?_eq_some_iff.1 hj).1)
    simp only [hj, hl, Bool.not_true, Bool.false_or] at k
    have q := Array.all_eq_true_iff_forall_mem.1 k e he
    simpa [hb] using q
  · have k := List.all_eq_true.1 h3 t (List.mem_range.2 htn)
    have : ¬ t < n := by omega
    simpa [this] using k
theorem AnyT.first {i : Nat} {oi : Oper} {v : Value} (hi : ops[i]? = some oi) (hsel : ∀ (j : Nat) (o : Oper) cs b, ops[j]? = some o → o.op ≠ .select cs b)
    (hQ : ∀ c a w, Q (.panic c) (a.put oi.dst v) w → Q (.panic c) a w) (hs : Region.sinkB md ops n = true) (hc : Region.chainB md ops n = true) (hn : n < ops.size) (hin : i < n) :
    ∀ (f : Nat) (listed : Array Bool) (a : Act) (w : World), HeadInv md ops n listed →
      (∀ j oj, ops[j]? = some oj → j ≠ i → listed.getD j true = false → (∀ e ∈ oj.after, Region.binds md e = true → e.on ≠ i) → oi.apart ops oj = true) →
      i ∈ Region.ready md ops listed → YieldsIf P ops S oi v a → S w → AnyT P md ops Q S n f (listed.setIfInBounds i true) (a.put oi.dst v) w → AnyT P md ops Q S n (f + 1) listed a w
  | 0, listed, a, w, _, _, hr, hy, hS, H => ⟨fun h => (by rw [h] at hr; cases hr), fun j hj => by
      by_cases hji : j = i
      · subst hji
        exact hy.wpOp hi hS ⟨fun _ => hS, H⟩
      · have := ready_mono hj hji
        rw [H.1] at this
        cases this⟩
  | f + 1, listed, a, w, inv, hfree, hr, hy, hS, H => ⟨fun h => (by rw [h] at hr; cases hr), fun j hj => by
      by_cases hji : j = i
      · subst hji
        exact hy.wpOp hi hS ⟨fun _ => hS, H⟩
      · have hun := (mem_ready.1 hr).1
        have hjn : j < n := by
          rcases Nat.lt_or_ge j n with h | h
          · exact h
          · exact absurd hj (tail_waits hs hc hn inv _ i rfl hin hun j h)
        obtain ⟨hjun, oj, hoj, hall⟩ := mem_ready.1 hj
        have hnot : ∀ e ∈ oj.after, Region.binds md e = true → e.on ≠ i := fun e he hb heq => by
          have h1 := hall e he hb
          rw [heq, getD_both hun] at h1
          cases h1
        have h2 := wpOp_putIf hoj (hfree j oj hoj hji hjun hnot) (fun cs b => hsel i oi cs b hi) (fun cs b => hsel j oj cs b hoj) hQ hy (H.2 j (ready_mono hj hji))
        have hfree' : ∀ k ok, ops[k]? = some ok → k ≠ i → (listed.setIfInBounds j true).getD k true = false → (∀ e ∈ ok.after, Region.binds md e = true → e.on ≠ i) → oi.apart ops ok = true := fun k ok hk hki hk2 hno => by
          refine hfree k ok hk hki ?_ hno
          by_cases hjk : j = k
          · subst hjk; exact hjun
          · rwa [getD_set_ne true hjk] at hk2
        refine wpOp_mono (fun a' w' q => ⟨q.2.1, AnyT.first hi hsel hQ hs hc hn hin f (listed.setIfInBounds j true) a' w' (inv.set hj hjn) hfree' (ready_mono hr (Ne.symm hji)) q.1 (q.2.1 (by omega)) ?_⟩) h2
        rw [Array.setIfInBounds_comm _ _ hji]
        exact q.2.2⟩
theorem AnyT.take {i : Nat} {oi : Oper} {v : Value} {f : Nat} {listed : Array Bool} {a : Act} {w : World} (hi : ops[i]? = some oi)
    (hs : (Region.noSelect ops && Region.free md ops listed i && (Region.ready md ops listed).contains i && Region.sinkB md ops n && Region.chainB md ops n && decide (n < ops.size) && decide (i < n) && headB md ops n listed) = true)
    (hQ : ∀ c a w, Q (.panic c) (a.put oi.dst v) w → Q (.panic c) a w) (hy : YieldsIf P ops S oi v a) (hS : S w)
    (h : AnyT P md ops Q S n f (listed.setIfInBounds i true) (a.put oi.dst v) w) : AnyT P md ops Q S n (f + 1) listed a w := by
  simp only [Bool.and_eq_true, decide_eq_true_eq] at hs
  obtain ⟨⟨⟨⟨⟨⟨⟨h1, h2⟩, h3⟩, h4⟩, h5⟩, h6⟩, h7⟩, h8⟩ := hs
  exact AnyT.first hi (Region.noSelect_spec h1) hQ h4 h5 h6 h7 f listed a w (headB_spec h8) (Region.free_spec hi h2) (by simpa using h3) hy hS h
/-- The one operation that may come up: not the last one, or the last one. -/
theorem AnyT.one {i : Nat} {oi : Oper} {f : Nat} {listed : Array Bool} {a : Act} {w : World} (hi : ops[i]? = some oi) (hr : Region.ready md ops listed = [i]) (hn : i ≠ n)
    (h : ∀ K : Act → World → Prop, (∀ a' w', S w' → AnyT P md ops Q S n f (listed.setIfInBounds i true) a' w' → K a' w') → if Region.wanted oi (yielded ops a.tmps) = true then Oper.wp P oi a w K Q else K (a.put oi.dst undef) w) :
    AnyT P md ops Q S n (f + 1) listed a w := by
  refine ⟨fun h0 => (by rw [hr] at h0; cases h0), fun j hj => ?_⟩
  rw [hr] at hj
  obtain rfl : j = i := by simpa using hj
  unfold wpOp
  simp only [hi]
  have := h (fun a' w' => (j ≠ n → S w') ∧ AnyT P md ops Q S n f (listed.setIfInBounds j true) a' w') (fun a' w' hs hk => ⟨fun _ => hs, hk⟩)
  split
  · rename_i hc
    rw [if_pos hc] at this
    exact .inl this
  · rename_i hc
    rw [if_neg hc] at this
    exact this
theorem AnyT.last {oi : Oper} {f : Nat} {listed : Array Bool} {a : Act} {w : World} (hi : ops[n]? = some oi) (hr : Region.ready md ops listed = [n]) (hd : Region.ready md ops (listed.setIfInBounds n true) = [])
    (h : if Region.wanted oi (yielded ops a.tmps) = true then Oper.wp P oi a w (Q .normal) Q else Q .normal (a.put oi.dst undef) w) : AnyT P md ops Q S n (f + 1) listed a w := by
  refine ⟨fun h0 => (by rw [hr] at h0; cases h0), fun j hj => ?_⟩
  rw [hr] at hj
  obtain rfl : j = n := by simpa using hj
  have done : ∀ f' a' w', Q .normal a' w' → AnyT P md ops Q S j f' (listed.setIfInBounds j true) a' w' := fun f' a' w' hq => by
    cases f' with
    | zero => exact ⟨hd, hq⟩
    | succ f' => exact ⟨fun _ => hq, fun k hk => by rw [hd] at hk; cases hk⟩
  unfold wpOp
  simp only [hi]
  split
  · rename_i hc
    rw [if_pos hc] at h
    exact .inl (Oper.wp_mono (fun a' w' hq => ⟨fun hne => absurd rfl hne, done f a' w' hq⟩) h)
  · rename_i hc
    rw [if_neg hc] at h
    exact ⟨fun hne => absurd rfl hne, done f _ w h⟩
theorem wp_region_last {id : Nat} {a : Act} {w : World} (n : Nat) (S : World → Prop) (hm : P.follows .mixedOrders = true) (hS : S w.drew)
    (h : S w.drew → AnyT P .any ops Q S n ops.size (Array.replicate ops.size false) a w.drew) : (Code.region id ops true).wp P Q a w :=
  wp_region_any hm (AnyT.any _ _ _ _ (h hS))
end
end Go.Proofs.YtfegklafpjdemaaGreatDoorW
