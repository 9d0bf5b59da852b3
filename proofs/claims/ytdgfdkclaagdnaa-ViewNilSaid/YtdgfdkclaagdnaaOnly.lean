/-
  Words for memory: what a call may turn; a block known whole.
-/
import Derived.Test.YtdgfdkclaagdnaaReg
import Derived.Laws.OwnMore
import Derived.Deep.AppendLies
import Derived.OwnWalk
namespace Go.Bv
open Go.RowKit

theorem cell_of_blk {w : World} {b : Nat} {cs : Array Value} {t : TypeId} {f : Nat × Nat} (h : w.heap[b]? = some (.cells cs t f)) (i : Nat) : w.cell? ⟨b, i, none⟩ = cs[i]? := by
  simp [World.cell?, h]
theorem free_of_blk {w : World} {b : Nat} {cs : Array Value} {t : TypeId} (h : w.heap[b]? = some (.cells cs t (0, 0))) (i : Nat) : w.frozen? ⟨b, i, none⟩ = false := by
  simp [World.frozen?, h]
/-- The world w' is w but for new blocks and for the blocks of a list. -/
structure Only (F : List Nat) (w w' : World) : Prop where
  os : w'.os = w.os
  tape : w'.tape = w.tape
  output : w'.output = w.output
  size : w.heap.size ≤ w'.heap.size
  block : ∀ k, k < w.heap.size → k ∉ F → w'.heap[k]? = w.heap[k]?

theorem Only.refl (F : List Nat) (w : World) : Only F w w := ⟨rfl, rfl, rfl, Nat.le_refl _, fun _ _ _ => rfl⟩
theorem Only.trans {F : List Nat} {a b c : World} (h : Only F a b) (k : Only F b c) : Only F a c :=
  ⟨k.os.trans h.os, k.tape.trans h.tape, k.output.trans h.output, Nat.le_trans h.size k.size, fun i hi hn => (k.block i (Nat.lt_of_lt_of_le hi h.size) hn).trans (h.block i hi hn)⟩
theorem Only.of_below {F : List Nat} {w w' : World} (h : Below w.heap.size w w') : Only F w w' := ⟨h.os, h.tape, h.output, h.size, fun k hk _ => h.block k hk⟩
theorem Only.mono {F F' : List Nat} {w w' : World} (h : Only F w w') (hs : ∀ k ∈ F, k < w.heap.size → k ∈ F') : Only F' w w' :=
  ⟨h.os, h.tape, h.output, h.size, fun k hk hn => h.block k hk (fun hm => hn (hs k hm hk))⟩
theorem Only.alloc {F : List Nat} {a w : World} (h : Only F a w) (o : Obj) : Only F a (w.alloc o) :=
  h.trans ⟨rfl, rfl, rfl, by simp, fun k hk _ => heap_alloc_old w o hk⟩
theorem Only.drew {F : List Nat} {a w : World} (h : Only F a w) : Only F a w.drew := ⟨h.os, h.tape, h.output, h.size, h.block⟩
theorem Only.setCell {F : List Nat} {a w : World} (h : Only F a w) {p : Addr} (hp : p.block ∈ F ∨ a.heap.size ≤ p.block) (u : Value) : Only F a (w.setCell p u) :=
  ⟨h.os, h.tape, h.output, by rw [World.size_setCell]; exact h.size, fun k hk hn => by
    rw [Below.heap_setCell _ _ _ _ (fun e => ?_)]
    · exact h.block k hk hn
    · subst e; rcases hp with hp | hp
      · exact hn hp
      · omega⟩
theorem Only.grown {F : List Nat} {a w w' : World} {row : Option Nat} (h : Only F a w) (hg : w.grownBy w' row) (hr : ∀ k, row = some k → k ∈ F ∨ a.heap.size ≤ k) : Only F a w' :=
  ⟨hg.os.trans h.os, hg.tape.trans h.tape, hg.output.trans h.output, Nat.le_trans h.size hg.size, fun k hk hn => by
    rw [hg.block k (Nat.lt_of_lt_of_le hk h.size) (fun e => ?_)]
    · exact h.block k hk hn
    · rcases hr k e.symm with hp | hp
      · exact hn hp
      · omega⟩
/-- Below a base from which on all of the list's blocks lie nothing turns. -/
theorem Only.below {F : List Nat} {w w' : World} {B : Nat} (h : Only F w w') (hB : B ≤ w.heap.size) (hF : ∀ k ∈ F, B ≤ k) : Below B w w' :=
  ⟨h.os, h.tape, h.output, h.size, fun k hk => h.block k (Nat.lt_of_lt_of_le hk hB) (fun hm => by have := hF k hm; omega)⟩

theorem ownsRow_of_block {w w' : World} {base : Nat} {e : TypeId} {size : Nat} {g n cap : Nat} {xs : List Value} (h : w.ownsRow base e size (.slice (some ⟨g, 0, none⟩) n cap) n xs) (hb : w'.heap[g]? = w.heap[g]?) :
    w'.ownsRow base e size (.slice (some ⟨g, 0, none⟩) n cap) n xs := by
  obtain ⟨h1, h2⟩ := h
  refine ⟨h1, ?_⟩
  rcases h2 with h2 | ⟨g', cap', cur, hv, hg, hh, r⟩
  · exact .inl h2
  · cases hv; exact .inr ⟨g, cap, cur, rfl, hg, by rw [hb]; exact hh, r⟩

theorem below_then {w w1 w2 : World} (h : Below w.heap.size w w1) (k : Below w1.heap.size w1 w2) : Below w.heap.size w w2 := h.trans (k.mono h.size)
theorem below_a1 (w : World) (A : Obj) : Below w.heap.size w (w.alloc A) := (Below.refl _ _).alloc (Nat.le_refl _) _
theorem below_a2 (w : World) (A B : Obj) : Below w.heap.size w ((w.alloc A).alloc B) := (below_a1 w A).alloc (by simp) _
theorem below_a3 (w : World) (A B C : Obj) : Below w.heap.size w (((w.alloc A).alloc B).alloc C) := (below_a2 w A B).alloc (by simp; omega) _

theorem kept {W w1 : World} (hb : Below W.heap.size W w1) {k : Nat} {o : Obj} (h : W.heap[k]? = some o) : w1.heap[k]? = some o :=
  (hb.block k (Array.getElem?_eq_some_iff.1 h).1).trans h
theorem blk1_0 (w : World) (A : Obj) : (w.alloc A).heap[w.heap.size]? = some A := heap_alloc_new _ _
theorem blk2_1 (w : World) (A B : Obj) : ((w.alloc A).alloc B).heap[w.heap.size + 1]? = some B := by have := heap_alloc_new (w.alloc A) B; simpa using this
theorem blk2_0 (w : World) (A B : Obj) : ((w.alloc A).alloc B).heap[w.heap.size]? = some A := by rw [heap_alloc_old _ _ (by simp)]; exact blk1_0 w A
theorem blk3_2 (w : World) (A B C : Obj) : (((w.alloc A).alloc B).alloc C).heap[w.heap.size + 1 + 1]? = some C := by have := heap_alloc_new ((w.alloc A).alloc B) C; simpa using this
theorem blk3_1 (w : World) (A B C : Obj) : (((w.alloc A).alloc B).alloc C).heap[w.heap.size + 1]? = some B := by rw [heap_alloc_old _ _ (by simp)]; exact blk2_1 w A B
theorem blk3_0 (w : World) (A B C : Obj) : (((w.alloc A).alloc B).alloc C).heap[w.heap.size]? = some A := by rw [heap_alloc_old _ _ (by simp; omega)]; exact blk2_0 w A B


theorem bdrewN (w : World) (n : Nat) : Below w.heap.size w (w.drewN n) := ⟨rfl, rfl, rfl, Nat.le_refl _, fun _ _ => rfl⟩

/-- the cells of a row that was just appended to nothing -/
theorem row_of_own {w : World} {base : Nat} {e : TypeId} {size : Nat} {v : Value} {n : Nat} {xs : List Value} (h : w.ownsRow base e size v n xs) (hn : 0 < n) :
    ∃ g cap, v = .slice (some ⟨g, 0, none⟩) n cap ∧ base ≤ g ∧ g < w.heap.size ∧ (∀ i, i < n * size → w.cell? ⟨g, i, none⟩ = xs[i]?) := by
  obtain ⟨g, cap, hv, hb, hlt⟩ := h.form hn
  subst hv
  exact ⟨g, cap, rfl, hb, hlt, fun i hi => h.cellAt i hi⟩
end Go.Bv
