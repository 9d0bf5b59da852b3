/-
  quad's small functions.
-/
import Derived.Test.YtkelfgigigcnjaaQdP
namespace Go.Proofs.Ytkelfgigigcnjaa
open Go.RowKit Go.Bv

theorem pow_bd {n : Nat} (h : n ≤ 62) : 1 ≤ (2 : Int) ^ n ∧ (2 : Int) ^ n ≤ 4611686018427387904 := by
  have h2 : (2 : Int) ^ n ≤ 2 ^ 62 := by
    have := Nat.pow_le_pow_right (n := 2) (by omega) h
    exact_mod_cast this
  have h3 : (0 : Int) < 2 ^ n := Int.pow_pos (by omega)
  exact ⟨by omega, by simpa using h2⟩
theorem w64_pow {n : Nat} (h : n ≤ 62) : wrap64 ((2 : Int) ^ n) = 2 ^ n := by
  have := pow_bd h
  exact IntWalk.wrap64_in _ (by omega)
theorem w64_1 : wrap64 1 = 1 := IntWalk.wrap64_in _ (by omega)
theorem below_then {w w1 w2 : World} (h : Below w.heap.size w w1) (k : Below w1.heap.size w1 w2) : Below w.heap.size w w2 := h.trans (k.mono h.size)
theorem below_a1 (w : World) (A : Obj) : Below w.heap.size w (w.alloc A) := (Below.refl _ _).alloc (Nat.le_refl _) _
theorem below_a2 (w : World) (A B : Obj) : Below w.heap.size w ((w.alloc A).alloc B) := (below_a1 w A).alloc (by simp) _
theorem below_a3 (w : World) (A B C : Obj) : Below w.heap.size w (((w.alloc A).alloc B).alloc C) := (below_a2 w A B).alloc (by simp; omega) _

theorem kept {W w1 : World} (hb : Below W.heap.size W w1) {k : Nat} {o : Obj} (h : W.heap[k]? = some o) : w1.heap[k]? = some o :=
  (hb.block k (Array.getElem?_eq_some_iff.1 h).1).trans h
theorem blk1_0 (w : World) (A : Obj) : (w.alloc A).heap[w.heap.size]? = some A := heap_alloc_new _ _
theorem blk2_1 (w : World) (A B : Obj) : ((w.alloc A).alloc B).heap[w.heap.size + 1]? = some B := by have := heap_alloc_new (w.alloc A) B; simpa using this
theorem blk2_0 (w : World) (A B : Obj) : ((w.alloc A).alloc B).heap[w.heap.size]? = some A := by rw [heap_alloc_old _ _ (by simp)]; exact blk1_0 w A
theorem blk3_2 (w : World) (A B C : Obj) : (((w.alloc A).alloc B).alloc C).heap[w.heap.size + 1 + 1]? = some C := by have := heap_alloc_new ((w.alloc A).alloc B) C; simpa using this
theorem blk3_1 (w : World) (A B C : Obj) : (((w.alloc A).alloc B).alloc C).heap[w.heap.size + 1]? = some B := by rw [heap_alloc_old _ _ (by simp)]; exact blk2_1 w A B
theorem blk3_0 (w : World) (A B C : Obj) : (((w.alloc A).alloc B).alloc C).heap[w.heap.size]? = some A := by rw [heap_alloc_old _ _ (by simp; omega)]; exact blk2_0 w A B

set_option maxRecDepth 100000 in
theorem half_st (w : World) (b r : Nat) (s : SV) (h : StoreAt w b s) (hr : r < 4294967296) :
    Calls Try.prog 118 #[pval b r] w fun e w' => e = .returned (.int .i64 (hf (lev s.σ r))) ∧ Below w.heap.size w w' := by
  have HS : Hid (StoreAt (w.alloc (.cells #[.pointer (some ⟨b, 0, none⟩), .int .u32 r] 51)) b s) := h.below ((Below.refl _ _).alloc (Nat.le_refl _) _)
  have hl := lev_le h.wf r
  have hl0 : -1 ≤ lev s.σ r := by unfold lev; split <;> omega
  have hw1 : IntKind.i64.wrap (lev s.σ r - 1) = lev s.σ r - 1 := IntWalk.i64_in _ (by omega)
  clear h
  unfold pval
  go_enter Try.func118, Try.ntmps118
  go_wp2_with (first | (go_at_call 31; refine (level_st _ _ _ _ HS.out hr).mono ?_; rintro e w1 ⟨rfl, rfl⟩) | go_in)
  case inl =>
    go_ret
    refine ⟨?_, (Below.refl _ _).alloc (Nat.le_refl _) _⟩
    have e : hf (lev s.σ r) = 1 := by unfold hf; rw [show (lev s.σ r - 1).toNat = 0 by omega]; rfl
    rw [e]; simp [w64_1]
  case inr =>
    go_ret
    refine ⟨?_, (Below.refl _ _).alloc (Nat.le_refl _) _⟩
    have e : wrap64 (2 ^ ((lev s.σ r).toNat - 1)) = hf (lev s.σ r) := by rw [w64_pow (by omega)]; unfold hf; rw [show (lev s.σ r - 1).toNat = (lev s.σ r).toNat - 1 by omega]
    simp [e]

set_option maxRecDepth 100000 in
theorem has_st (w : World) (b r : Nat) (s : SV) (px py : Int) (h : StoreAt w b s) (hr : r < 4294967296) :
    Calls Try.prog 87 #[pval b r, pt px py] w fun e w' => e = .returned (.bool (inSq (lev s.σ r) px py)) ∧ Below w.heap.size w w' := by
  have HS : Hid (StoreAt ((w.alloc (.cells #[.pointer (some ⟨b, 0, none⟩), .int .u32 r] 51)).alloc (.cells #[.int .i64 px, .int .i64 py] 45)) b s) := h.below (((Below.refl _ _).alloc (Nat.le_refl _) _).alloc (by simp) _)
  have hl := hf_bd (lev_le h.wf r)
  have hw1 : IntKind.i64.wrap (-(hf (lev s.σ r))) = -(hf (lev s.σ r)) := IntWalk.i64_in _ (by omega)
  have hin : Hid (inSq (lev s.σ r) px py = (decide (-hf (lev s.σ r) ≤ px) && decide (px < hf (lev s.σ r)) && decide (-hf (lev s.σ r) ≤ py) && decide (py < hf (lev s.σ r)))) := rfl
  generalize hff : hf (lev s.σ r) = H at *
  have HF := Lib.hid hff
  clear h hff
  unfold pval pt
  go_enter Try.func87, Try.ntmps87
  go_wp2_with (first | (go_at_call 118; refine (half_st _ _ _ _ HS.out hr).mono ?_; rintro e w1 ⟨rfl, hb1⟩; rw [HF.out]; have c0 : w1.cell? ⟨w.heap.size + 1, 0, none⟩ = some (.int .i64 px) := (by rw [hb1.cell (by simp <;> omega)]; simp); have c1 : w1.cell? ⟨w.heap.size + 1, 1, none⟩ = some (.int .i64 py) := (by rw [hb1.cell (by simp <;> omega)]; simp); have HB1 := Lib.hid hb1; clear hb1) | go_in)
  all_goals
    go_ret
    refine ⟨?_, below_then (below_a2 w _ _) (by simpa using HB1.out)⟩
    rw [hin.out]
    simp [*]
    try omega

set_option maxRecDepth 100000 in
theorem start_st (w : World) (b r : Nat) (s : SV) (px py : Int) (h : StoreAt w b s) (hr : r < 4294967296) (hx : -hf (lev s.σ r) ≤ px ∧ px < hf (lev s.σ r)) (hy : -hf (lev s.σ r) ≤ py ∧ py < hf (lev s.σ r)) :
    Calls Try.prog 88 #[pval b r, pt px py] w fun e w' => e = .returned (pt (px + hf (lev s.σ r)) (py + hf (lev s.σ r))) ∧ Below w.heap.size w w' := by
  have HS : Hid (StoreAt (((w.alloc (.cells #[.pointer (some ⟨b, 0, none⟩), .int .u32 r] 51)).alloc (.cells #[.int .i64 px, .int .i64 py] 45)).alloc (.cells #[.int .i64 0, .int .i64 0] 45)) b s) := h.below (below_a3 w _ _ _)
  have hl := hf_bd (lev_le h.wf r)
  generalize hff : hf (lev s.σ r) = H at *
  have HF := Lib.hid hff
  have hw1 : IntKind.i64.wrap (px + H) = px + H := IntWalk.i64_in _ (by omega)
  have hw2 : IntKind.i64.wrap (py + H) = py + H := IntWalk.i64_in _ (by omega)
  clear h hff
  unfold pval pt
  go_enter Try.func88, Try.ntmps88
  go_wp2_with fail
  refine (half_st _ _ _ _ HS.out hr).mono ?_
  rintro e w1 ⟨rfl, hb1⟩
  rw [HF.out]
  have k1 := kept hb1 (blk3_1 w _ _ _)
  have k2 := kept hb1 (blk3_2 w _ _ _)
  have c0 := cell_of_blk k1 0
  have c1 := cell_of_blk k1 1
  have c2 := cell_of_blk k2 0
  have c3 := cell_of_blk k2 1
  have f2 := free_of_blk k2 0
  have f3 := free_of_blk k2 1
  simp at c0 c1 c2 c3
  clear k1 k2
  have HB1 := Lib.hid hb1
  clear hb1
  go_wp2
  refine bodyPost_ret (v := pt (px + H) (py + H)) (by simp [results, Try.results88, go_sem, c2, c3, pt]) rfl ⟨rfl, ?_⟩
  exact ((below_then (below_a3 w _ _ _) HB1.out).setCell (by simp; omega) _).setCell (by simp; omega) _

set_option maxRecDepth 100000 in
theorem which_st (w : World) (n : Nat) (px py : Int) (hn : n ≤ 61) (hx : 0 ≤ px ∧ px < 2 ^ (n + 1)) (hy : 0 ≤ py ∧ py < 2 ^ (n + 1)) :
    Calls Try.prog 89 #[pt px py, .int .i64 (n + 1 : Nat)] w fun e w' => e = .returned (.tuple #[.int .i64 (qi (2 ^ n) px py), pt (qc (2 ^ n) px) (qc (2 ^ n) py)]) ∧ Below w.heap.size w w' := by
  have hp := pow_bd (show n ≤ 62 by omega)
  have hww := w64_pow (show n ≤ 62 by omega)
  have hw1 : IntKind.i64.wrap (((n + 1 : Nat) : Int) - 1) = n := by rw [IntWalk.i64_in _ (by omega)]; omega
  rw [Int.pow_succ] at hx hy
  have hw2 : wrap64 (px - 2 ^ n) = px - 2 ^ n := IntWalk.wrap64_in _ (by omega)
  have hw3 : wrap64 (py - 2 ^ n) = py - 2 ^ n := IntWalk.wrap64_in _ (by omega)
  clear hx hy
  unfold pt
  go_enter Try.func89, Try.ntmps89
  go_wp2_with (first | go_region | go_in)
  all_goals
    rename_i h1 h2
    try rw [← Int.not_le] at h1
    try rw [← Int.not_le] at h2
    refine bodyPost_ret (v := .tuple #[.int .i64 (qi (2 ^ n) px py), pt (qc (2 ^ n) px) (qc (2 ^ n) py)]) (by simp [results, Try.results89, go_sem, pt, qi, qc, h1, h2]) rfl ⟨rfl, ?_⟩
    repeat refine Below.drew ?_
    exact below_a2 _ _ _
end Go.Proofs.Ytkelfgigigcnjaa
