/-
  view's At and Tell at what the law's example asks.
-/
import Derived.Test.YtdgfdkclaagdnaaVw
import Derived.Test.YtdgfdkclaagdnaaOnly
namespace Go.Proofs.Ytdgfdkclaagdnaa
open Go.RowKit Go.Bv

/-- A view in memory. -/
structure VwAt (w : World) (b r : Nat) (gen commits : Int) (waits : Value) (m : Array MapEntry × Nat) : Prop where
  blk : w.heap[b]? = some (.cells #[.int .i64 0, .int .u64 gen, .int .u64 0, .int .i64 commits, .map (some r), waits, .bool false] 100 (0, 0))
  map : mapAt w r = some m

set_option maxRecDepth 100000 in
set_option maxHeartbeats 1000000 in
theorem at_vw (w : World) (b r : Nat) (gen commits : Int) (waits : Value) (m : Array MapEntry × Nat) (x y : Int) (v : Value) (hv : VwAt w b r gen commits waits m) (hk : ∀ e ∈ m.1.toList, PairOf .i64 .i64 e.key)
    (hf : ((mfind pairEq (.agg #[.int .i64 x, .int .i64 y]) m.1.toList 0).map (·.2)).getD bits0 = v) (hbits : v = bits0 ∨ v = bits1) :
    Calls Try.prog 23 #[.pointer (some ⟨b, 0, none⟩), .agg #[.int .i64 x, .int .i64 y]] w fun e w' => e = .returned v ∧ Below w.heap.size w w' := by
  have hr := mapAt_lt hv.map
  have hbz : b < w.heap.size := (Array.getElem?_eq_some_iff.1 hv.blk).1
  have hz : ∀ w, (zeroValue 55).run Try.prog w = .ok bits0 w := fun w => by kernel_rfl
  have hl : ∀ w1, mapAt w1 r = some m → (Instr.lookup 98 (.map (some r)) (.agg #[.int .i64 x, .int .i64 y]) false).run Try.prog w1 = .ok v w1 := fun w1 h1 => by
    rw [run_lookup_at key_pt Try.underlying98 (hz w1) h1 (pairOf_mk _ _ _ _) hk false, hf]; rfl
  have hm := hv.map
  have c4 := cell_of_blk hv.blk 4
  simp at c4
  have c4' : ∀ o, (w.alloc o).cell? ⟨b, 4, none⟩ = some (.map (some r)) := fun o => by rw [World.cell?_alloc_old _ _ _ (by simp; omega)]; exact c4
  have c4'' : ∀ o o', ((w.alloc o).alloc o').cell? ⟨b, 4, none⟩ = some (.map (some r)) := fun o o' => by rw [World.cell?_alloc_old _ _ _ (by simp; omega)]; exact c4' o
  have hl2 : ∀ o o', (Instr.lookup 98 (.map (some r)) (.agg #[.int .i64 x, .int .i64 y]) false).run Try.prog ((w.alloc o).alloc o').drew = .ok v ((w.alloc o).alloc o').drew := fun o o' =>
    hl _ (by rw [mapAt_drew, mapAt_alloc_lt _ _ _ (by simp; omega), mapAt_alloc_lt _ _ _ hr]; exact hm)
  clear hf hz hk hv hl hm
  rcases hbits with rfl | rfl
  · unfold bits0 at hl2 ⊢
    go_enter Try.func23, Try.ntmps23
    go_wp2_with (first | (refine still_last mix (by decide +kernel) ?_; simp only [List.length_cons, List.length_nil, Nat.reduceAdd, Nat.reduceSub, List.take_succ_cons, List.take_zero, List.drop_succ_cons, List.drop_zero]; (repeat still_step); refine wpStill_nil ?_) | go_in)
    refine bodyPost_ret (v := bits0) (by simp [results, Try.results23, go_sem, bits0]) rfl ⟨by rfl, ?_⟩
    exact (below_a2 w _ _).drew
  · unfold bits1 at hl2 ⊢
    go_enter Try.func23, Try.ntmps23
    go_wp2_with (first | (refine still_last mix (by decide +kernel) ?_; simp only [List.length_cons, List.length_nil, Nat.reduceAdd, Nat.reduceSub, List.take_succ_cons, List.take_zero, List.drop_succ_cons, List.drop_zero]; (repeat still_step); refine wpStill_nil ?_) | go_in)
    refine bodyPost_ret (v := bits1) (by simp [results, Try.results23, go_sem, bits1]) rfl ⟨by rfl, ?_⟩
    exact (below_a2 w _ _).drew
end Go.Proofs.Ytdgfdkclaagdnaa
