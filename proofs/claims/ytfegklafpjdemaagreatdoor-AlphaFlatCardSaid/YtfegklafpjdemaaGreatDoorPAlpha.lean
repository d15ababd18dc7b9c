/- Plain: the filters of an alpha plane, forth and back. -/
set_option linter.unusedVariables false
namespace Mq

def clampI (n : Int) : Nat := if n < 0 then 0 else if 255 < n then 255 else n.toNat
theorem clampI_lt (n : Int) : clampI n < 256 := by unfold clampI; split <;> (try split) <;> omega
/-- What a byte may be, at x and y. -/
def aguess (a : List Nat) (w f x y : Nat) : Nat :=
  if f = 0 ∨ (x = 0 ∧ y = 0) then 0
  else if y = 0 ∨ (0 < x ∧ f = 1) then a.getD (y * w + x - 1) 0
  else if x = 0 ∨ f = 2 then a.getD (y * w + x - w) 0
  else clampI ((a.getD (y * w + x - 1) 0 : Int) + (a.getD (y * w + x - w) 0 : Int) - (a.getD (y * w + x - w - 1) 0 : Int))
/-- .. at a place. -/
def ag (a : List Nat) (w f k : Nat) : Nat := aguess a w f (k % w) (k / w)
theorem aguess_lt (a : List Nat) (w f x y : Nat) (h : ∀ b ∈ a, b < 256) : aguess a w f x y < 256 := by
  have hg : ∀ i, a.getD i 0 < 256 := by
    intro i
    rw [List.getD]
    cases hi : a[i]? with
    | none => simp
    | some v => simpa using h v (List.mem_of_getElem? hi)
  unfold aguess
  split
  · decide
  · split
    · exact hg _
    · split
      · exact hg _
      · exact clampI_lt _
theorem ag_lt (a : List Nat) (w f k : Nat) (h : ∀ b ∈ a, b < 256) : ag a w f k < 256 := aguess_lt a w f _ _ h
theorem ag_congr (a b : List Nat) (w f k : Nat) (hw : 0 < w) (h : ∀ i, i < k → a.getD i 0 = b.getD i 0) : ag a w f k = ag b w f k := by
  have hk : k / w * w + k % w = k := by rw [Nat.mul_comm]; exact Nat.div_add_mod k w
  unfold ag aguess
  rw [hk]
  by_cases h1 : f = 0 ∨ (k % w = 0 ∧ k / w = 0)
  · rw [if_pos h1, if_pos h1]
  rw [if_neg h1, if_neg h1]
  have hk0 : 0 < k := by
    rcases Nat.eq_zero_or_pos k with e | e
    · exfalso; apply h1; right; subst e; simp
    · exact e
  by_cases h2 : k / w = 0 ∨ (0 < k % w ∧ f = 1)
  · rw [if_pos h2, if_pos h2]
    exact h _ (by omega)
  rw [if_neg h2, if_neg h2]
  by_cases h3 : k % w = 0 ∨ f = 2
  · rw [if_pos h3, if_pos h3]
    exact h _ (by omega)
  rw [if_neg h3, if_neg h3, h _ (show k - 1 < k by omega), h _ (show k - w < k by omega), h _ (show k - w - 1 < k by omega)]

/-- The first k bytes less what they may be; the others as they are. -/
def forthTo (a : List Nat) (w f : Nat) : Nat → List Nat
  | 0 => a
  | k + 1 => (forthTo a w f k).set k ((a.getD k 0 + 256 - ag a w f k) % 256)
def backTo (a : List Nat) (w f : Nat) : Nat → List Nat
  | 0 => a
  | k + 1 => (backTo a w f k).set k ((a.getD k 0 + ag (backTo a w f k) w f k) % 256)
def forthL (a : List Nat) (w f : Nat) : List Nat := forthTo a w f a.length
def backL (a : List Nat) (w f : Nat) : List Nat := backTo a w f a.length
theorem forthTo_length (a : List Nat) (w f : Nat) : ∀ k, (forthTo a w f k).length = a.length
  | 0 => rfl
  | k + 1 => by simp [forthTo, forthTo_length a w f k]
theorem backTo_length (a : List Nat) (w f : Nat) : ∀ k, (backTo a w f k).length = a.length
  | 0 => rfl
  | k + 1 => by simp [backTo, backTo_length a w f k]
theorem getD_set (l : List Nat) (k i v : Nat) : (l.set k v).getD i 0 = if i = k ∧ k < l.length then v else l.getD i 0 := by
  rw [List.getD, List.getD, List.getElem?_set]
  by_cases h : k = i
  · subst h
    by_cases h2 : k < l.length
    · simp [h2]
    · simp [h2]
  · rw [if_neg h, if_neg (fun hh => h hh.1.symm)]
theorem forthTo_get (a : List Nat) (w f : Nat) : ∀ k i, (forthTo a w f k).getD i 0 = if i < k ∧ i < a.length then (a.getD i 0 + 256 - ag a w f i) % 256 else a.getD i 0
  | 0, i => by simp [forthTo]
  | k + 1, i => by
    rw [forthTo, getD_set, forthTo_length, forthTo_get a w f k i]
    by_cases h : i = k
    · subst h
      by_cases h2 : i < a.length
      · simp [h2]
      · simp [h2]
    · rw [if_neg (fun hh => h hh.1)]
      by_cases h2 : i < k ∧ i < a.length
      · rw [if_pos h2, if_pos ⟨by omega, h2.2⟩]
      · rw [if_neg h2, if_neg (fun hh => h2 ⟨by omega, hh.2⟩)]
/-- The k-th byte behind all rounds is what the k-th round made it. -/
theorem backTo_keep (a : List Nat) (w f i : Nat) : ∀ k d, i < k → (backTo a w f (k + d)).getD i 0 = (backTo a w f k).getD i 0
  | k, 0, _ => rfl
  | k, d + 1, h => by
    rw [← Nat.add_assoc, backTo, getD_set, if_neg (by omega), backTo_keep a w f i k d h]
theorem backTo_rest (a : List Nat) (w f i : Nat) : ∀ k, k ≤ i → (backTo a w f k).getD i 0 = a.getD i 0
  | 0, _ => rfl
  | k + 1, h => by rw [backTo, getD_set, if_neg (by omega), backTo_rest a w f i k (by omega)]
theorem backL_get (a : List Nat) (w f i : Nat) (hw : 0 < w) (hi : i < a.length) : (backL a w f).getD i 0 = (a.getD i 0 + ag (backL a w f) w f i) % 256 := by
  have h1 : (backL a w f).getD i 0 = (backTo a w f (i + 1)).getD i 0 := by
    have := backTo_keep a w f i (i + 1) (a.length - (i + 1)) (by omega)
    rwa [show i + 1 + (a.length - (i + 1)) = a.length by omega] at this
  have h2 : ag (backTo a w f i) w f i = ag (backL a w f) w f i := ag_congr _ _ w f i hw fun j hj => by
    have := backTo_keep a w f j i (a.length - i) hj
    rw [show i + (a.length - i) = a.length by omega] at this
    exact this.symm
  rw [h1, backTo, getD_set, if_pos ⟨rfl, by rw [backTo_length]; exact hi⟩, h2]
theorem ext_getD (a b : List Nat) (hl : a.length = b.length) (h : ∀ i, i < a.length → a.getD i 0 = b.getD i 0) : a = b := by
  refine List.ext_getElem hl fun i h1 h2 => ?_
  have := h i h1
  rw [List.getD, List.getD, List.getElem?_eq_getElem h1, List.getElem?_eq_getElem h2] at this
  exact this
theorem forthL_length (a : List Nat) (w f : Nat) : (forthL a w f).length = a.length := forthTo_length a w f _
theorem backL_length (a : List Nat) (w f : Nat) : (backL a w f).length = a.length := backTo_length a w f _
theorem forthL_get (a : List Nat) (w f i : Nat) (hi : i < a.length) : (forthL a w f).getD i 0 = (a.getD i 0 + 256 - ag a w f i) % 256 := by
  unfold forthL
  rw [forthTo_get, if_pos ⟨hi, hi⟩]
theorem getD_lt (a : List Nat) (h : ∀ b ∈ a, b < 256) (i : Nat) : a.getD i 0 < 256 := by
  rw [List.getD]
  cases hi : a[i]? with
  | none => simp
  | some v => simpa using h v (List.mem_of_getElem? hi)
theorem mem_lt (a : List Nat) (h : ∀ i, a.getD i 0 < 256) : ∀ b ∈ a, b < 256 := by
  intro b hb
  obtain ⟨i, hi⟩ := List.getElem?_of_mem hb
  have := h i
  rw [List.getD, hi] at this
  exact this
theorem forthL_lt (a : List Nat) (w f : Nat) (h : ∀ b ∈ a, b < 256) : ∀ b ∈ forthL a w f, b < 256 := by
  refine mem_lt _ fun i => ?_
  by_cases hi : i < a.length
  · rw [forthL_get a w f i hi]; exact Nat.mod_lt _ (by decide)
  · rw [List.getD, List.getElem?_eq_none (by rw [forthL_length]; omega)]; decide
theorem backTo_lt (a : List Nat) (w f : Nat) (h : ∀ b ∈ a, b < 256) : ∀ k, ∀ b ∈ backTo a w f k, b < 256
  | 0 => h
  | k + 1 => by
    refine mem_lt _ fun i => ?_
    rw [backTo, getD_set]
    split
    · exact Nat.mod_lt _ (by decide)
    · exact getD_lt _ (backTo_lt a w f h k) i
theorem backL_lt (a : List Nat) (w f : Nat) (h : ∀ b ∈ a, b < 256) : ∀ b ∈ backL a w f, b < 256 := backTo_lt a w f h _
/-- Forth, and back. -/
theorem back_forth (a : List Nat) (w f : Nat) (hw : 0 < w) (h : ∀ b ∈ a, b < 256) : backL (forthL a w f) w f = a := by
  have hl : (backL (forthL a w f) w f).length = a.length := by rw [backL_length, forthL_length]
  have key : ∀ i, i < a.length → (backL (forthL a w f) w f).getD i 0 = a.getD i 0 := by
    intro i
    induction i using Nat.strongRecOn with
    | ind i ih =>
      intro hi
      rw [backL_get _ w f i hw (by rw [forthL_length]; exact hi), forthL_get a w f i hi]
      have e : ag (backL (forthL a w f) w f) w f i = ag a w f i := ag_congr _ _ w f i hw fun j hj => ih j hj (by omega)
      rw [e]
      have h1 := ag_lt a w f i h
      have h2 := getD_lt a h i
      omega
  exact ext_getD _ _ hl fun i hi => key i (by omega)
/-- Back, and forth. -/
theorem forth_back (a : List Nat) (w f : Nat) (hw : 0 < w) (h : ∀ b ∈ a, b < 256) : forthL (backL a w f) w f = a := by
  have hl : (forthL (backL a w f) w f).length = a.length := by rw [forthL_length, backL_length]
  refine ext_getD _ _ hl fun i hi => ?_
  rw [hl] at hi
  rw [forthL_get _ w f i (by rw [backL_length]; exact hi), backL_get a w f i hw hi]
  have h1 := ag_lt (backL a w f) w f i (backL_lt a w f h)
  have h2 := getD_lt a h i
  omega
theorem ag_flat (n c w f k : Nat) (hw : 0 < w) (hf : f ≠ 0) (hk : k < n) (hc : c < 256) : ag (List.replicate n c) w f k = if k = 0 then 0 else c := by
  have hg : ∀ i, i < n → (List.replicate n c).getD i 0 = c := by
    intro i hi
    rw [List.getD, List.getElem?_replicate, if_pos hi]; rfl
  have hkw : k / w * w + k % w = k := by rw [Nat.mul_comm]; exact Nat.div_add_mod k w
  unfold ag aguess
  rw [hkw]
  by_cases h0 : k = 0
  · subst h0
    rw [if_pos (Or.inr ⟨by simp, by simp⟩), if_pos rfl]
  rw [if_neg h0]
  have h1 : ¬ (f = 0 ∨ (k % w = 0 ∧ k / w = 0)) := by
    rintro (h | ⟨h2, h3⟩)
    · exact hf h
    · rw [h2, h3] at hkw; simp at hkw; omega
  rw [if_neg h1]
  by_cases h2 : k / w = 0 ∨ (0 < k % w ∧ f = 1)
  · rw [if_pos h2]; exact hg _ (by omega)
  rw [if_neg h2]
  by_cases h3 : k % w = 0 ∨ f = 2
  · rw [if_pos h3]; exact hg _ (by omega)
  rw [if_neg h3, hg _ (by omega), hg _ (by omega), hg _ (by omega)]
  unfold clampI
  rw [if_neg (by omega), if_neg (by omega)]
  omega
theorem forth_flat (n c w f i : Nat) (hw : 0 < w) (hf : f ≠ 0) (hi : i < n) (hc : c < 256) : (forthL (List.replicate n c) w f).getD i 0 = if i = 0 then c else 0 := by
  have hg : (List.replicate n c).getD i 0 = c := by
    rw [List.getD, List.getElem?_replicate, if_pos hi]; rfl
  rw [forthL_get _ w f i (by simpa using hi), hg, ag_flat n c w f i hw hf hi hc]
  split <;> omega
theorem ag_none (a : List Nat) (w k : Nat) : ag a w 0 k = 0 := by
  unfold ag aguess
  rw [if_pos (Or.inl rfl)]
theorem forth_none (a : List Nat) (w : Nat) (h : ∀ b ∈ a, b < 256) : forthL a w 0 = a := by
  refine ext_getD _ _ (forthL_length a w 0) fun i hi => ?_
  rw [forthL_length] at hi
  rw [forthL_get a w 0 i hi, ag_none]
  have := getD_lt a h i
  omega
end Mq
