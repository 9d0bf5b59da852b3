/-
  A store in memory: its three cells, the squares' row, the table's row.
-/
import Derived.Test.YtkelfgigigcnjaaRows
import Derived.Test.YtkelfgigigcnjaaReg
import Derived.Test.YtkelfgigigcnjaaStP
namespace Go.Proofs.Ytkelfgigigcnjaa
open Go.RowKit Go.Bv

structure SV where
  nb : Nat
  tb : Nat
  cap : Nat
  σ : List Nd
  tab : List Nat
  most : Nat

def kcells (k : K4) : List Value := [.int .u32 k.a, .int .u32 k.b, .int .u32 k.c, .int .u32 k.d]
def kval (k : K4) : Value := .agg #[.int .u32 k.a, .int .u32 k.b, .int .u32 k.c, .int .u32 k.d]
def ncells (n : Nd) : List Value := [.int .u32 n.k.a, .int .u32 n.k.b, .int .u32 n.k.c, .int .u32 n.k.d, .int .i64 n.level, .int .u64 n.alive]
def ndCells (σ : List Nd) : List Value := σ.flatMap ncells

structure StoreAt (w : World) (b : Nat) (s : SV) : Prop where
  blk : w.heap[b]? = some (.cells #[.slice (some ⟨s.nb, 0, none⟩) s.σ.length s.cap, .slice (some ⟨s.tb, 0, none⟩) s.tab.length s.tab.length, .int .i64 s.most] 143 (0, 0))
  nds : w.ownsRow 0 140 6 (.slice (some ⟨s.nb, 0, none⟩) s.σ.length s.cap) s.σ.length (ndCells s.σ)
  tbl : w.ownsRow 0 33 1 (.slice (some ⟨s.tb, 0, none⟩) s.tab.length s.tab.length) s.tab.length (s.tab.map fun (x : Nat) => Value.int .u32 (x : Int))
  wf : Wf s.σ
  tok : TabOk s.σ s.tab s.most
  top : s.most ≤ 1048576
  tmx : s.tab.length ≤ 4194304

theorem cell_of_blk {w : World} {b : Nat} {cs : Array Value} {t : TypeId} {f : Nat × Nat} (h : w.heap[b]? = some (.cells cs t f)) (i : Nat) : w.cell? ⟨b, i, none⟩ = cs[i]? := by
  simp [World.cell?, h]
theorem free_of_blk {w : World} {b : Nat} {cs : Array Value} {t : TypeId} (h : w.heap[b]? = some (.cells cs t (0, 0))) (i : Nat) : w.frozen? ⟨b, i, none⟩ = false := by
  simp [World.frozen?, h]

theorem ndCells_get : ∀ (σ : List Nd) (x j : Nat) (n : Nd), σ[x]? = some n → j < 6 → (ndCells σ)[x * 6 + j]? = (ncells n)[j]?
  | [], _, _, _, h, _ => by simp at h
  | m :: σ, 0, j, n, h, hj => by
    simp at h; subst h
    simp only [ndCells, List.flatMap_cons, Nat.zero_mul, Nat.zero_add]
    rw [List.getElem?_append_left (by simpa [ncells] using hj)]
  | m :: σ, x + 1, j, n, h, hj => by
    have ih := ndCells_get σ x j n (by simpa using h) hj
    simp only [ndCells, List.flatMap_cons] at ih ⊢
    rw [List.getElem?_append_right (by simp [ncells]; omega)]
    simp only [ncells, List.length_cons, List.length_nil] at ih ⊢
    rw [show (x + 1) * 6 + j - (0 + 1 + 1 + 1 + 1 + 1 + 1) = x * 6 + j by omega]
    exact ih
theorem ndCells_length (σ : List Nd) : (ndCells σ).length = σ.length * 6 := by
  induction σ with
  | nil => rfl
  | cons n σ ih => simp only [ndCells, List.flatMap_cons, List.length_append] at ih ⊢; rw [ih]; simp [ncells]; omega

section
variable {w : World} {b : Nat} {s : SV}
theorem StoreAt.c0 (h : StoreAt w b s) : w.cell? ⟨b, 0, none⟩ = some (.slice (some ⟨s.nb, 0, none⟩) s.σ.length s.cap) := by rw [cell_of_blk h.blk]; rfl
theorem StoreAt.c1 (h : StoreAt w b s) : w.cell? ⟨b, 1, none⟩ = some (.slice (some ⟨s.tb, 0, none⟩) s.tab.length s.tab.length) := by rw [cell_of_blk h.blk]; rfl
theorem StoreAt.c2 (h : StoreAt w b s) : w.cell? ⟨b, 2, none⟩ = some (.int .i64 s.most) := by rw [cell_of_blk h.blk]; rfl
theorem StoreAt.free (h : StoreAt w b s) (i : Nat) : w.frozen? ⟨b, i, none⟩ = false := free_of_blk h.blk i
theorem StoreAt.node (h : StoreAt w b s) {x j : Nat} {n : Nd} (hn : s.σ[x]? = some n) (hj : j < 6) : w.cell? ⟨s.nb, x * 6 + j, none⟩ = (ncells n)[j]? := by
  have hx := (List.getElem?_eq_some_iff.1 hn).1
  rw [h.nds.cellAt _ (by omega), ndCells_get _ _ _ _ hn hj]
theorem StoreAt.entry (h : StoreAt w b s) {i : Nat} (hi : i < s.tab.length) : w.cell? ⟨s.tb, i, none⟩ = some (.int .u32 (s.tab.getD i 0)) := by
  rw [h.tbl.cellAt _ (by omega)]
  simp [hi]
theorem StoreAt.lt (h : StoreAt w b s) : b < w.heap.size := (Array.getElem?_eq_some_iff.1 h.blk).1
theorem StoreAt.nlt (h : StoreAt w b s) : s.nb < w.heap.size := (h.nds.lt s.nb rfl).2
theorem StoreAt.tlt (h : StoreAt w b s) : s.tb < w.heap.size := (h.tbl.lt s.tb rfl).2
theorem StoreAt.len (h : StoreAt w b s) : 2 ≤ s.σ.length ∧ s.σ.length ≤ 1048576 := ⟨h.wf.two, Nat.le_trans h.tok.fits h.top⟩
theorem StoreAt.nheap (h : StoreAt w b s) : ∃ cur, w.heap[s.nb]? = some (.cells cur 140 (0, 0)) := by
  rcases h.nds.2 with ⟨h1, _⟩ | ⟨g, cap, cur, hv, _, hh, _⟩
  · cases h1
  · cases hv; exact ⟨cur, hh⟩
theorem StoreAt.theap (h : StoreAt w b s) : ∃ cur, w.heap[s.tb]? = some (.cells cur 33 (0, 0)) := by
  rcases h.tbl.2 with ⟨h1, _⟩ | ⟨g, cap, cur, hv, _, hh, _⟩
  · cases h1
  · cases hv; exact ⟨cur, hh⟩
theorem StoreAt.ne (h : StoreAt w b s) : b ≠ s.nb ∧ b ≠ s.tb ∧ s.nb ≠ s.tb := by
  obtain ⟨c1, h1⟩ := h.nheap
  obtain ⟨c2, h2⟩ := h.theap
  have h0 := h.blk
  refine ⟨fun e => ?_, fun e => ?_, fun e => ?_⟩
  · rw [e, h1] at h0; cases h0
  · rw [e, h2] at h0; cases h0
  · rw [e, h2] at h1; cases h1
end

/-- The world w' is w but for new blocks and for the blocks of a list. -/
structure Only (F : List Nat) (w w' : World) : Prop where
  os : w'.os = w.os
  tape : w'.tape = w.tape
  output : w'.output = w.output
  size : w.heap.size ≤ w'.heap.size
  block : ∀ k, k < w.heap.size → k ∉ F → w'.heap[k]? = w.heap[k]?

theorem Only.refl (F : List Nat) (w : World) : Only F w w := ⟨rfl, rfl, rfl, Nat.le_refl _, fun _ _ _ => rfl⟩
theorem Only.trans {F : List Nat} {a b c : World} (h : Only F a b) (k : Only F b c) : Only F a c :=
  ⟨k.os.trans h.os, k.tape.trans h.tape, k.output.trans h.output, Nat.le_trans h.size k.size, fun i hi hn => (k.block i (Nat.lt_of_lt_of_le hi h.size) hn).trans (h.block i hi hn)⟩
theorem Only.of_below {F : List Nat} {w w' : World} (h : Below w.heap.size w w') : Only F w w' := ⟨h.os, h.tape, h.output, h.size, fun k hk _ => h.block k hk⟩
theorem Only.mono {F F' : List Nat} {w w' : World} (h : Only F w w') (hs : ∀ k ∈ F, k < w.heap.size → k ∈ F') : Only F' w w' :=
  ⟨h.os, h.tape, h.output, h.size, fun k hk hn => h.block k hk (fun hm => hn (hs k hm hk))⟩
theorem Only.alloc {F : List Nat} {a w : World} (h : Only F a w) (o : Obj) : Only F a (w.alloc o) :=
  h.trans ⟨rfl, rfl, rfl, by simp, fun k hk _ => heap_alloc_old w o hk⟩
theorem Only.drew {F : List Nat} {a w : World} (h : Only F a w) : Only F a w.drew := ⟨h.os, h.tape, h.output, h.size, h.block⟩
theorem Only.setCell {F : List Nat} {a w : World} (h : Only F a w) {p : Addr} (hp : p.block ∈ F ∨ a.heap.size ≤ p.block) (u : Value) : Only F a (w.setCell p u) :=
  ⟨h.os, h.tape, h.output, by rw [World.size_setCell]; exact h.size, fun k hk hn => by
    rw [Below.heap_setCell _ _ _ _ (fun e => ?_)]
    · exact h.block k hk hn
    · subst e; rcases hp with hp | hp
      · exact hn hp
      · omega⟩
theorem Only.grown {F : List Nat} {a w w' : World} {row : Option Nat} (h : Only F a w) (hg : w.grownBy w' row) (hr : ∀ k, row = some k → k ∈ F ∨ a.heap.size ≤ k) : Only F a w' :=
  ⟨hg.os.trans h.os, hg.tape.trans h.tape, hg.output.trans h.output, Nat.le_trans h.size hg.size, fun k hk hn => by
    rw [hg.block k (Nat.lt_of_lt_of_le hk h.size) (fun e => ?_)]
    · exact h.block k hk hn
    · rcases hr k e.symm with hp | hp
      · exact hn hp
      · omega⟩
/-- Below a base from which on all of the list's blocks lie nothing turns. -/
theorem Only.below {F : List Nat} {w w' : World} {B : Nat} (h : Only F w w') (hB : B ≤ w.heap.size) (hF : ∀ k ∈ F, B ≤ k) : Below B w w' :=
  ⟨h.os, h.tape, h.output, h.size, fun k hk => h.block k (Nat.lt_of_lt_of_le hk hB) (fun hm => by have := hF k hm; omega)⟩

theorem ownsRow_of_block {w w' : World} {base : Nat} {e : TypeId} {size : Nat} {g n cap : Nat} {xs : List Value} (h : w.ownsRow base e size (.slice (some ⟨g, 0, none⟩) n cap) n xs) (hb : w'.heap[g]? = w.heap[g]?) :
    w'.ownsRow base e size (.slice (some ⟨g, 0, none⟩) n cap) n xs := by
  obtain ⟨h1, h2⟩ := h
  refine ⟨h1, ?_⟩
  rcases h2 with h2 | ⟨g', cap', cur, hv, hg, hh, r⟩
  · exact .inl h2
  · cases hv; exact .inr ⟨g, cap, cur, rfl, hg, by rw [hb]; exact hh, r⟩

/-- The blocks of a store. -/
def foot (b : Nat) (s : SV) : List Nat := [b, s.nb, s.tb]

theorem StoreAt.kept {w w' : World} {b : Nat} {s : SV} {F : List Nat} (h : StoreAt w b s) (ho : Only F w w') (hF : ∀ k ∈ foot b s, k ∉ F) : StoreAt w' b s where
  blk := by rw [ho.block b h.lt (hF b (by simp [foot]))]; exact h.blk
  nds := ownsRow_of_block h.nds (ho.block _ h.nlt (hF _ (by simp [foot])))
  tbl := ownsRow_of_block h.tbl (ho.block _ h.tlt (hF _ (by simp [foot])))
  wf := h.wf
  tok := h.tok
  top := h.top
  tmx := h.tmx
theorem StoreAt.below {w w' : World} {b : Nat} {s : SV} (h : StoreAt w b s) (ho : Below w.heap.size w w') : StoreAt w' b s :=
  h.kept (F := []) (Only.of_below ho) (by simp)
theorem StoreAt.only {w w' : World} {b : Nat} {s : SV} (h : StoreAt w b s) (ho : Only [] w w') : StoreAt w' b s := h.kept ho (by simp)
end Go.Proofs.Ytkelfgigigcnjaa
