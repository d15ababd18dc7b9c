/- General words for walks over this program: what a call may change (St), slices that are read (Rd), rows that are owned. Nothing of the program stands here. -/
import Derived.WalkKit
import Derived.Outline
import Derived.Deep.QuietTactic
import Derived.BigQuiet
import Derived.Lib.Hide
import Derived.Deep.AppendSrc
import Derived.Maps.AppendAt
import Derived.Deep.AppendLies
import Derived.OneCell
set_option linter.unusedVariables false
namespace Go.Proofs.YtfegklafpjdemaaGreatDoorW
open Go.RowKit Go

/-- From w to w' only blocks of F, and new ones, may have changed; what is F' now lay in F or is new. -/
structure St (F F' : List Nat) (w w' : World) : Prop where
  os : w'.os = w.os
  tape : w'.tape = w.tape
  output : w'.output = w.output
  size : w.heap.size ≤ w'.heap.size
  block : ∀ k, k < w.heap.size → k ∉ F → w'.heap[k]? = w.heap[k]?
  sub : ∀ k ∈ F', k ∈ F ∨ w.heap.size ≤ k

theorem St.refl (F : List Nat) (w : World) : St F F w w := ⟨rfl, rfl, rfl, Nat.le_refl _, fun _ _ _ => rfl, fun _ h => .inl h⟩
theorem St.trans {F F' F'' : List Nat} {w w1 w2 : World} (h : St F F' w w1) (k : St F' F'' w1 w2) : St F F'' w w2 :=
  ⟨k.os.trans h.os, k.tape.trans h.tape, k.output.trans h.output, Nat.le_trans h.size k.size,
   fun i hi hn => (k.block i (Nat.lt_of_lt_of_le hi h.size) (fun hm => by rcases h.sub i hm with h1 | h1; exact hn h1; omega)).trans (h.block i hi hn),
   fun i hi => by
    rcases k.sub i hi with h1 | h1
    · exact h.sub i h1
    · exact .inr (Nat.le_trans h.size h1)⟩
theorem St.of_below {w w' : World} (h : Below w.heap.size w w') (F : List Nat) : St F F w w' :=
  ⟨h.os, h.tape, h.output, h.size, fun k hk _ => h.block k hk, fun _ h => .inl h⟩
theorem St.below {w w' : World} (h : St [] [] w w') : Below w.heap.size w w' := ⟨h.os, h.tape, h.output, h.size, fun k hk => h.block k hk (by simp)⟩
theorem St.below_new {F' : List Nat} {w w' : World} (h : St [] F' w w') : Below w.heap.size w w' := ⟨h.os, h.tape, h.output, h.size, fun k hk => h.block k hk (by simp)⟩
/-- What changes only blocks from B on, B the heap's size at w0. -/
theorem St.belowFrom {B : Nat} {F F' : List Nat} {w0 w w' : World} (hb : Below B w0 w) (h : St F F' w w') (hB : B ≤ w.heap.size) (hF : ∀ k ∈ F, B ≤ k) : Below B w0 w' :=
  hb.trans ⟨h.os, h.tape, h.output, h.size, fun k hk => h.block k (by omega) (fun hm => by have := hF k hm; omega)⟩
theorem St.mono {F F' G : List Nat} {w w' : World} (h : St F F' w w') (hs : ∀ k ∈ F, k ∈ G) : St G F' w w' :=
  ⟨h.os, h.tape, h.output, h.size, fun k hk hn => h.block k hk (fun hm => hn (hs k hm)), fun k hk => (h.sub k hk).imp (hs k) id⟩
theorem St.less {F F' G : List Nat} {w w' : World} (h : St F F' w w') (hs : ∀ k ∈ G, k ∈ F') : St F G w w' :=
  ⟨h.os, h.tape, h.output, h.size, h.block, fun k hk => h.sub k (hs k hk)⟩
/-- Two footprints side by side: the one that isn't touched stays what it is. -/
theorem St.beside {F F' : List Nat} {w w' : World} (h : St F F' w w') (G : List Nat) : St (F ++ G) (F' ++ G) w w' :=
  ⟨h.os, h.tape, h.output, h.size, fun k hk hn => h.block k hk (fun hm => hn (List.mem_append_left _ hm)), fun k hk => by
    rcases List.mem_append.1 hk with h1 | h1
    · exact (h.sub k h1).imp (List.mem_append_left _) id
    · exact .inl (List.mem_append_right _ h1)⟩
theorem St.drew {F F' : List Nat} {w w' : World} (h : St F F' w w') : St F F' w w'.drew := ⟨h.os, h.tape, h.output, h.size, h.block, h.sub⟩
theorem St.drewN {F F' : List Nat} {w w' : World} (h : St F F' w w') (n : Nat) : St F F' w (w'.drewN n) := ⟨h.os, h.tape, h.output, h.size, h.block, h.sub⟩
theorem St.alloc {F F' : List Nat} {w w' : World} (h : St F F' w w') (o : Obj) : St F F' w (w'.alloc o) :=
  h.trans ⟨rfl, rfl, rfl, by simp, fun k hk _ => Below.heap_alloc _ _ _ hk, fun _ h => .inl h⟩
theorem St.allocTo {F F' : List Nat} {w w' : World} (h : St F F' w w') (o : Obj) : St F (w'.heap.size :: F') w (w'.alloc o) :=
  h.trans ⟨rfl, rfl, rfl, by simp, fun k hk _ => Below.heap_alloc _ _ _ hk, fun k hk => by
    rcases List.mem_cons.1 hk with h1 | h1
    · exact .inr (by omega)
    · exact .inl h1⟩
theorem St.setCell {F F' : List Nat} {w w' : World} (h : St F F' w w') {p : Addr} (hp : p.block ∈ F') (u : Value) : St F F' w (w'.setCell p u) :=
  h.trans ⟨rfl, rfl, rfl, by simp, fun k hk hn => Below.heap_setCell _ _ _ _ (fun e => hn (e ▸ hp)), fun _ h => .inl h⟩
theorem St.grown {F F' : List Nat} {w w' w2 : World} {v v' : Value} (h : St F F' w w') (hg : w'.grownBy w2 v.ownBlock) (hv : ∀ k, v.ownBlock = some k → k ∈ F')
    (hat : v'.ownBlock = v.ownBlock ∨ v'.ownBlock = some w'.heap.size) : St F (v'.ownBlock.toList ++ F') w w2 :=
  h.trans ⟨hg.os, hg.tape, hg.output, hg.size, fun k hk hn => hg.block k hk (fun e => hn (hv k e.symm)), fun k hk => by
    rcases List.mem_append.1 hk with h1 | h1
    · simp only [Option.mem_toList] at h1
      rcases hat with e | e
      · exact .inl (hv k (e ▸ h1))
      · rw [e] at h1
        simp at h1
        exact .inr (by omega)
    · exact .inl h1⟩
theorem St.cell {F F' : List Nat} {w w' : World} (h : St F F' w w') {p : Addr} (hp : p.block < w.heap.size) (hn : p.block ∉ F) : w'.cell? p = w.cell? p := World.cell?_of_block (w := w) (h.block p.block hp hn)
theorem St.frozen {F F' : List Nat} {w w' : World} (h : St F F' w w') {p : Addr} (hp : p.block < w.heap.size) (hn : p.block ∉ F) : w'.frozen? p = w.frozen? p := World.frozen?_of_block (w := w) (h.block p.block hp hn)

/-! ### Blocks known whole -/
theorem blk_lt {w : World} {b : Nat} {o : Obj} (h : w.heap[b]? = some o) : b < w.heap.size := (Array.getElem?_eq_some_iff.1 h).1
theorem blk_cell {w : World} {b : Nat} {cs : Array Value} {t : TypeId} {fr : Nat × Nat} (h : w.heap[b]? = some (.cells cs t fr)) (i : Nat) : w.cell? ⟨b, i, none⟩ = cs[i]? := by simp [World.cell?, h]
theorem blk_free {w : World} {b : Nat} {cs : Array Value} {t : TypeId} (h : w.heap[b]? = some (.cells cs t (0, 0))) (i : Nat) : w.frozen? ⟨b, i, none⟩ = false := by simp [World.frozen?, h]
theorem blk_set {w : World} {b : Nat} {cs : Array Value} {t : TypeId} {fr : Nat × Nat} (h : w.heap[b]? = some (.cells cs t fr)) (i : Nat) (u : Value) :
    (w.setCell ⟨b, i, none⟩ u).heap[b]? = some (.cells (cs.setIfInBounds i u) t fr) := by
  simp only [World.setCell, Array.getElem?_modify, h]
  simp
theorem blk_other {w : World} {b : Nat} {a : Addr} (h : b ≠ a.block) (u : Value) : (w.setCell a u).heap[b]? = w.heap[b]? := Below.heap_setCell _ _ _ _ h
theorem blk_old {w : World} {b : Nat} {o : Obj} (h : w.heap[b]? = some o) (o' : Obj) : (w.alloc o').heap[b]? = some o := (Below.heap_alloc _ _ _ (blk_lt h)).trans h
theorem blk_new (w : World) (o : Obj) : (w.alloc o).heap[w.heap.size]? = some o := heap_alloc_new w o
theorem blk_below {B : Nat} {w w' : World} {b : Nat} {o : Obj} (h : Below B w w') (hb : b < B) (hh : w.heap[b]? = some o) : w'.heap[b]? = some o := (h.block b hb).trans hh
theorem blk_st {F F' : List Nat} {w w' : World} {b : Nat} {o : Obj} (h : St F F' w w') (hb : b ∉ F) (hh : w.heap[b]? = some o) : w'.heap[b]? = some o := (h.block b (blk_lt hh) hb).trans hh
theorem blk_grown {row : Option Nat} {w w' : World} {b : Nat} {o : Obj} (h : w.grownBy w' row) (hb : some b ≠ row) (hh : w.heap[b]? = some o) : w'.heap[b]? = some o := (h.block b (blk_lt hh) hb).trans hh

/-! ### A slice's cells, read -/
/-- The cells cs lie from A on. -/
def Rd (w : World) (A : Option Addr) (cs : List Value) : Prop :=
  cs = [] ∨ ∃ b o, A = some ⟨b, o, none⟩ ∧ b < w.heap.size ∧ ∀ j u, cs[j]? = some u → w.cell? ⟨b, o + j, none⟩ = some u
/-- The block of a slice's cells is none of these. -/
def Off (A : Option Addr) (F : List Nat) : Prop := ∀ a, A = some a → a.block ∉ F
theorem Off.nil (A : Option Addr) : Off A [] := fun _ _ => by simp
theorem Rd.keep {F F' : List Nat} {w w' : World} {A : Option Addr} {cs : List Value} (h : Rd w A cs) (k : St F F' w w') (ho : Off A F) : Rd w' A cs := by
  rcases h with h | ⟨b, o, rfl, hb, hc⟩
  · exact .inl h
  · exact .inr ⟨b, o, rfl, Nat.lt_of_lt_of_le hb k.size, fun j u hj => (k.cell (p := ⟨b, o + j, none⟩) hb (ho ⟨b, o, none⟩ rfl)).trans (hc j u hj)⟩
theorem Rd.below {w w' : World} {A : Option Addr} {cs : List Value} (h : Rd w A cs) (k : Below w.heap.size w w') : Rd w' A cs := h.keep (St.of_below k []) (Off.nil _)
theorem Rd.at_ {w : World} {A : Option Addr} {cs : List Value} (h : Rd w A cs) (hne : cs ≠ []) : ∃ b o, A = some ⟨b, o, none⟩ ∧ b < w.heap.size ∧ ∀ j u, cs[j]? = some u → w.cell? ⟨b, o + j, none⟩ = some u := by
  rcases h with h | h
  · exact absurd h hne
  · exact h
theorem Rd.of_own {w : World} {base : Nat} {e : TypeId} {size : Nat} {A : Option Addr} {n c : Nat} {xs : List Value} (h : w.ownsRow base e size (.slice A n c) n xs) : Rd w A xs := by
  rcases h.2 with ⟨h1, h2⟩ | ⟨g, cap, cur, h1, h2, h3, h4, h5, h6, h7⟩
  · subst h2
    have := h.1
    simp at this
    exact .inl this
  · injection h1 with h1 h1' h1''
    subst h1
    refine .inr ⟨g, 0, rfl, blk_lt h3, fun j u hj => ?_⟩
    rw [Nat.zero_add, blk_cell h3 j, ← Array.getElem?_toList]
    rw [← h7] at hj
    rw [List.getElem?_take] at hj
    split at hj
    · exact hj
    · cases hj

/-- A row that is owned: no base is asked. -/
abbrev Own (w : World) (e : TypeId) (size : Nat) (v : Value) (n : Nat) (xs : List Value) : Prop := w.ownsRow 0 e size v n xs
theorem Own.shape {w : World} {e : TypeId} {size : Nat} {v : Value} {n : Nat} {xs : List Value} (h : Own w e size v n xs) : ∃ A c, v = .slice A n c := by
  rcases h.2 with ⟨rfl, rfl⟩ | ⟨g, cap, cur, rfl, _⟩
  · exact ⟨none, 0, rfl⟩
  · exact ⟨_, cap, rfl⟩
theorem Own.base {w : World} {base : Nat} {e : TypeId} {size : Nat} {v : Value} {n : Nat} {xs : List Value} (h : w.ownsRow base e size v n xs) : Own w e size v n xs := by
  obtain ⟨h1, h2⟩ := h
  refine ⟨h1, ?_⟩
  rcases h2 with h2 | ⟨g, cap, cur, a, b, c, d⟩
  · exact .inl h2
  · exact .inr ⟨g, cap, cur, a, Nat.zero_le _, c, d⟩
theorem Own.le {w : World} {e : TypeId} {size : Nat} {v : Value} {n : Nat} {xs : List Value} (h : Own w e size v n xs) : n ≤ maxLen := by
  rcases h.2 with ⟨_, rfl⟩ | ⟨g, cap, cur, _, _, _, a, b, _⟩
  · exact Nat.zero_le _
  · exact Nat.le_trans a b
/-- A block of another element type is not the row's. -/
theorem Own.ne {w : World} {e t : TypeId} {size b : Nat} {v : Value} {n : Nat} {xs : List Value} {cs : Array Value} {fr : Nat × Nat} (h : Own w e size v n xs) (hb : w.heap[b]? = some (.cells cs t fr)) (ht : t ≠ e) : v.ownBlock ≠ some b := by
  rcases h.2 with ⟨rfl, _⟩ | ⟨g, cap, cur, rfl, _, hg, _⟩
  · simp [Value.ownBlock]
  · intro e'
    simp [Value.ownBlock] at e'
    subst e'
    rw [hg] at hb
    injection hb with hb
    injection hb with _ hb
    exact ht hb.symm
theorem Own.keep {F F' : List Nat} {w w' : World} {e : TypeId} {size : Nat} {v : Value} {n : Nat} {xs : List Value} (h : Own w e size v n xs) (k : St F F' w w') (hf : ∀ b, v.ownBlock = some b → b ∉ F) : Own w' e size v n xs := by
  obtain ⟨h1, h2⟩ := h
  refine ⟨h1, ?_⟩
  rcases h2 with h2 | ⟨g, cap, cur, rfl, hg, hh, r⟩
  · exact Or.inl h2
  · exact Or.inr ⟨g, cap, cur, rfl, hg, blk_st k (hf g rfl) hh, r⟩
theorem Own.setCell {w : World} {e : TypeId} {size : Nat} {v : Value} {n : Nat} {xs : List Value} (h : Own w e size v n xs) {a : Addr} (ha : v.ownBlock ≠ some a.block) (u : Value) : Own (w.setCell a u) e size v n xs := ownsRow_setCell_other h ha u
@[simp] theorem Own.drew_iff {w : World} {e : TypeId} {size : Nat} {v : Value} {n : Nat} {xs : List Value} : Own w.drew e size v n xs ↔ Own w e size v n xs := Iff.rfl
@[simp] theorem Own.drewN_iff {w : World} {k : Nat} {e : TypeId} {size : Nat} {v : Value} {n : Nat} {xs : List Value} : Own (w.drewN k) e size v n xs ↔ Own w e size v n xs := Iff.rfl
theorem Rd.drew_iff {w : World} {A : Option Addr} {cs : List Value} : Rd w.drew A cs ↔ Rd w A cs := Iff.rfl
theorem Rd.drewN_iff {w : World} {k : Nat} {A : Option Addr} {cs : List Value} : Rd (w.drewN k) A cs ↔ Rd w A cs := Iff.rfl
/-- The new contents of a row of one cell an element behind a store. -/
theorem Own.store {w : World} {e : TypeId} {n c g : Nat} {xs : List Value} (h : Own w e 1 (.slice (some ⟨g, 0, none⟩) n c) n xs) (j : Nat) (u : Value) (hj : j < n) :
    Own (w.setCell ⟨g, j, none⟩ u) e 1 (.slice (some ⟨g, 0, none⟩) n c) n (xs.set j u) := by
  have := (h.stored j u).1
  simpa using this

/-- append, of whatever is owned, of whatever source: at the operation. -/
theorem run_app {P : Program} (w : World) (t tx ty e : TypeId) (i : TypeInfo) (z : Value) (size bytes : Nat) (ht : P.underlying t = some (.slice e)) (hi : P.info? e = some i) (hz : i.zero = some z)
    (hsize : i.size = size) (hby : i.bytes = bytes) (hzs : z.cells.size = size) (hsz : 0 < size)
    (v : Value) (n : Nat) (xs : List Value) (hown : Own w e size v n xs) (x : Value) (m : Nat) (news : List Value) (hs : Src P size tx x m news w)
    (h63 : n + m ≤ maxLen) (hbytes : (n + m) * bytes ≤ 140737488355328) :
    ∃ v' w', (Builtin.append_ #[t, tx] ty #[v, x]).run P w = .ok v' w' ∧ Own w' e size v' (n + m) (xs ++ news) ∧ w.grownBy w' v.ownBlock ∧
      (v' = .slice none 0 0 ↔ v = .slice none 0 0 ∧ m = 0) ∧ (v'.ownBlock = v.ownBlock ∨ v'.ownBlock = some w.heap.size) := by
  subst hsize
  subst hby
  have hsmall : n + m ≤ 9223372036854775807 := by simp only [maxLen] at h63; omega
  have hl := hs.newsLen
  have hlen : (xs ++ news).length = (n + m) * i.size := by rw [List.length_append, hown.1, hl, Nat.add_mul]
  have grown : ∀ (old : Nat), old < n + m → ∀ (row : Option Nat),
      Own (w.drew.alloc (.cells ((xs ++ news).toArray ++ Builtin.zeroCells z.cells (grownCap w (n + m) old e - (n + m))) e)) e i.size
        (.slice (some ⟨w.heap.size, 0, none⟩) (n + m) (grownCap w (n + m) old e)) (n + m) (xs ++ news) ∧
      w.grownBy (w.drew.alloc (.cells ((xs ++ news).toArray ++ Builtin.zeroCells z.cells (grownCap w (n + m) old e - (n + m))) e)) row := by
    intro old ho row
    have hge := grownCap_ge w (n + m) old e
    have hcm : grownCap w (n + m) old e ≤ maxLen := grownCap_le_maxLen w (n + m) old e h63
    refine ⟨⟨hlen, .inr ⟨w.heap.size, _, _, rfl, Nat.zero_le _, heap_alloc_new w.drew _, hge, hcm, ?_, ?_⟩⟩, ⟨rfl, rfl, rfl, by simp, fun k hk _ => Below.heap_alloc w.drew _ k hk⟩⟩
    · simp only [Array.size_append, List.size_toArray, size_zeroCells, hzs, hlen, ← Nat.add_mul]
      congr 1
      omega
    · simp only [Array.toList_append]
      rw [← hlen]
      exact List.take_left
  rcases hown.2 with ⟨rfl, rfl⟩ | ⟨g, cap, cur, rfl, hbg, hg, hnc, hcm, hcs, htake⟩
  · have hx : xs = [] := List.eq_nil_of_length_eq_zero (by simpa using hown.1)
    subst hx
    by_cases hm : m = 0
    · subst hm
      have hn : news = [] := List.eq_nil_of_length_eq_zero (by simpa using hl)
      subst hn
      refine ⟨.slice none 0 0, w, ?_, World.ownsRow_nil w 0 e i.size, ⟨rfl, rfl, rfl, Nat.le_refl _, fun _ _ _ => rfl⟩, by simp, Or.inl rfl⟩
      rcases hs.kind with ⟨e', hk⟩ | hk <;> simp [Builtin.append_, run_underlying ht, run_underlying hk, sizeOf, typeInfo, hi, hs.len, hs.cells]
    · have hr := run_append_grow_src (P := P) w t tx ty e i z ht hi hz none 0 0 [] (by simp [Builtin.firstCells]) x m news hs (by omega) (by omega) (growslice_fits (by omega) hbytes)
      have hgr := grown 0 (by omega) (Value.ownBlock (.slice none 0 0))
      simp only [Nat.zero_add, List.nil_append] at hgr hr ⊢
      exact ⟨_, _, hr, hgr.1, hgr.2, by simp [hm], Or.inr rfl⟩
  · by_cases hroom : n + m ≤ cap
    · have hfit : n * i.size + news.length ≤ cur.size := by rw [hl, hcs, ← Nat.add_mul]; exact Nat.mul_le_mul_right _ hroom
      have hr := run_append_room_src (P := P) w t tx ty e i ht hi g 0 n cap x m news hs hroom (fun j hj => by
        rw [blk_cell hg]
        rw [Array.getElem?_eq_getElem (by omega)]
        rfl) (fun j _ => blk_free hg _)
      simp only [Nat.zero_add] at hr
      have hset : ∀ (ys : List Value) (off : Nat) (W : World) (cs : Array Value), W.heap[g]? = some (.cells cs e (0, 0)) → off + ys.length ≤ cs.size →
          ∃ cs', (W.setCells g off ys).heap[g]? = some (.cells cs' e (0, 0)) ∧ cs'.size = cs.size ∧ cs'.toList.take (off + ys.length) = cs.toList.take off ++ ys ∧ W.grownBy (W.setCells g off ys) (some g) := by
        intro ys
        induction ys with
        | nil => intro off W cs hW _; exact ⟨cs, hW, rfl, by simp, rfl, rfl, rfl, Nat.le_refl _, fun _ _ _ => rfl⟩
        | cons y ys ih =>
          intro off W cs hW hle
          simp only [List.length_cons] at hle
          obtain ⟨cs', a1, a2, a3, a4⟩ := ih (off + 1) (W.setCell ⟨g, off, none⟩ y) (cs.setIfInBounds off y) (blk_set hW off y) (by simp; omega)
          refine ⟨cs', a1, by simpa using a2, ?_, ?_⟩
          · rw [show off + (y :: ys).length = off + 1 + ys.length by simp; omega, a3]
            simp only [Array.toList_setIfInBounds]
            rw [List.take_add_one, List.getElem?_set_self (by simp; omega), List.take_set_of_le (by omega)]
            simp
          · have a5 : W.grownBy (W.setCell ⟨g, off, none⟩ y) (some g) := ⟨rfl, rfl, rfl, by simp, fun k hk hne => blk_other (fun e => hne (by rw [e])) _⟩
            exact World.grownBy.trans a5 a4
      obtain ⟨cs', a1, a2, a3, a4⟩ := hset news (n * i.size) w cur hg hfit
      refine ⟨_, _, hr, ⟨hlen, .inr ⟨g, cap, cs', rfl, Nat.zero_le _, a1, hroom, hcm, by rw [a2, hcs], ?_⟩⟩, a4, by simp, Or.inl rfl⟩
      rw [← htake, ← a3, hl, Nat.add_mul]
    · have holds : ∀ j u, xs[j]? = some u → w.cell? ((⟨g, 0, none⟩ : Addr).add j) = some u := hown.cells (g := g) rfl
      have hr := run_append_grow_src (P := P) w t tx ty e i z ht hi hz (some ⟨g, 0, none⟩) n cap xs (run_firstCells_some w.drew i.size n ⟨g, 0, none⟩ n cap xs hown.1 (by simpa using holds)) x m news hs (by omega) (by omega) (growslice_fits (by omega) hbytes)
      have hgr := grown cap (by omega) (Value.ownBlock (.slice (some ⟨g, 0, none⟩) n cap))
      exact ⟨_, _, hr, hgr.1, hgr.2, by simp, Or.inr rfl⟩

theorem wpList_app {P : Program} (w : World) {ops : Array Oper} {rest : List Oper} {o : Oper} {a : Act} {Q : Exit → Act → World → Prop} (hgd : o.guard = none) (s x : Operand) (t tx : TypeId)
    (ho : o.op = .call { callee := .builtin .append, args := #[s, x], argTypes := #[t, tx] })
    (e : TypeId) (z : Value) (size bytes : Nat) (ht : P.underlying t = some (.slice e)) (hinfo : (P.info? e).map (fun i => (i.zero, i.size, i.bytes)) = some (some z, size, bytes))
    (hzs : z.cells.size = size) (hsz : 0 < size) (v : Value) (n : Nat) (xs : List Value) (hs : a.eval s = v) (hown : Own w e size v n xs)
    (xv : Value) (m : Nat) (news : List Value) (hx : a.eval x = xv) (hsrc : Src P size tx xv m news w) (h63 : n + m ≤ maxLen) (hbytes : (n + m) * bytes ≤ 140737488355328)
    (h : ∀ v' w', Own w' e size v' (n + m) (xs ++ news) → w.grownBy w' v.ownBlock → (v' = .slice none 0 0 ↔ v = .slice none 0 0 ∧ m = 0) → (v'.ownBlock = v.ownBlock ∨ v'.ownBlock = some w.heap.size) →
      wpList P ops Q rest (a.put o.dst v') w') : wpList P ops Q (o :: rest) a w := by
  obtain ⟨i, hi, hzz⟩ := Option.map_eq_some_iff.1 hinfo
  simp only [Prod.mk.injEq] at hzz
  obtain ⟨hz0, hz1, hz2⟩ := hzz
  refine wpList_plain hgd fun K hK => ?_
  obtain ⟨v', w', hr, h2, h3, h4, h5⟩ := run_app (P := P) w t tx o.type e i z size bytes ht hi hz0 hz1 hz2 hzs hsz v n xs hown xv m news hsrc h63 hbytes
  unfold Oper.wp execOp
  simp only [ho, resolve, invoke, builtin, Sem.run_bind, Sem.run_pure, Result.andThen_ok, List.map_toArray, List.map_cons, List.map_nil, hs, hx, hr]
  exact hK _ _ (h v' w' h2 h3 h4 h5)
theorem Src.ofRd {P : Program} {w : World} {size : Nat} {tx e' : TypeId} (hk : P.underlying tx = some (.slice e')) (A : Option Addr) (n c : Nat) (cs : List Value) (hl : cs.length = n * size) (hsz : 0 < size) (h : Rd w A cs)
    (h1 : ∀ u ∈ cs, u.oneCell' = true) : Src P size tx (.slice A n c) n cs w := by
  rcases h with rfl | ⟨b, o, rfl, hb, hc⟩
  · obtain rfl : n = 0 := by
      rcases Nat.eq_zero_or_pos n with h0 | h0
      · exact h0
      · have := Nat.mul_pos h0 hsz
        simp at hl
        omega
    cases A with
      | none => exact Src.ofNil w hk c
      | some a => exact Src.ofSlice w hk a 0 c [] (by simp) (by simp) (by simp)
  · exact Src.ofSlice w hk ⟨b, o, none⟩ n c cs hl (fun j u hj => by rw [Addr.add_lit]; exact hc j u hj) h1
end Go.Proofs.YtfegklafpjdemaaGreatDoorW
