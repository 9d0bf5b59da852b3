/-
  The store's New.
-/
import Derived.Test.YtkelfgigigcnjaaStE
import Derived.OwnWalk
namespace Go.Proofs.Ytkelfgigigcnjaa
open Go.RowKit Go.Bv

theorem Try.infoID : (Try.prog.info? 33).map (fun i => (i.zero, i.size, i.bytes)) = some (some (.int .u32 0), 1, 4) := by kernel_rfl

theorem wf0 : Wf [nd0, nd1] where
  two := by simp
  n0 := rfl
  n1 := rfl
  kids := by intro x n hx h; have : x < 2 := (List.getElem?_eq_some_iff.1 h).1; omega
  lvl := by intro x n hx h; have : x < 2 := (List.getElem?_eq_some_iff.1 h).1; omega
  once := by intro x y n m hx hy h; have : x < 2 := (List.getElem?_eq_some_iff.1 h).1; omega
  cap := by
    intro x n h
    have hx : x < 2 := (List.getElem?_eq_some_iff.1 h).1
    obtain rfl | rfl : x = 0 ∨ x = 1 := by omega
    · simp at h; subst h; decide
    · simp at h; subst h; decide
theorem tab0 {most sz : Nat} (h2 : 2 ≤ most) (hs : 2 * most ≤ sz) : TabOk [nd0, nd1] (List.replicate sz 0) most where
  big := by simpa using hs
  some := by simp; omega
  fits := by simpa using h2
  entry := by
    intro i h
    exfalso; apply h
    simp only [List.getD_eq_getElem?_getD, List.getElem?_replicate]
    split <;> rfl
  there := by intro x hx hl; simp at hl; omega
  count := by simp

/-- What New leaves: a fresh store. -/
theorem fresh_at {w wc w2 w3 : World} {most sz b : Nat} {gt : Nat} (hw : Below w.heap.size w wc) (hn : wc.heap[w.heap.size]? = some (.cells #[.int .u32 0, .int .u32 0, .int .u32 0, .int .u32 0, .int .i64 0, .int .u64 0, .int .u32 0, .int .u32 0, .int .u32 0, .int .u32 0, .int .i64 0, .int .u64 1] 140 (0, 0)))
    (hg : gt = wc.heap.size) (ht : w2.ownsRow 0 33 1 (.slice (some ⟨gt, 0, none⟩) sz sz) sz (madeCells (Value.cells (.int .u32 0)) (sz * 1)).toList) (hgr : wc.grownBy w2 none)
    (h3 : w3 = w2.alloc (.cells #[.slice (some ⟨w.heap.size, 0, none⟩) 2 2, .slice (some ⟨gt, 0, none⟩) sz sz, .int .i64 most] 143)) (hb : b = w2.heap.size)
    (h2 : 2 ≤ most) (hm : most ≤ 1048576) (hs : 2 * most ≤ sz) (hsz : sz ≤ 4194304) :
    StoreAt w3 b ⟨w.heap.size, gt, 2, [nd0, nd1], List.replicate sz 0, most⟩ ∧ Below w.heap.size w w3 := by
  have hwz := hw.size
  have hn1 : w.heap.size < wc.heap.size := (Array.getElem?_eq_some_iff.1 hn).1
  subst h3 hb hg
  have hz : wc.heap.size < w2.heap.size := (ht.lt _ rfl).2
  refine ⟨⟨by rw [heap_alloc_new]; simp, ?_, ?_, wf0, tab0 h2 hs, hm, by simpa using hsz⟩, ?_⟩
  · have hh : (w2.alloc (.cells #[.slice (some ⟨w.heap.size, 0, none⟩) 2 2, .slice (some ⟨wc.heap.size, 0, none⟩) sz sz, .int .i64 most] 143)).heap[w.heap.size]? = some (.cells #[.int .u32 0, .int .u32 0, .int .u32 0, .int .u32 0, .int .i64 0, .int .u64 0, .int .u32 0, .int .u32 0, .int .u32 0, .int .u32 0, .int .i64 0, .int .u64 1] 140 (0, 0)) := by
      rw [heap_alloc_old _ _ (by omega), hgr.block _ (by omega) (by simp)]
      exact hn
    exact ⟨rfl, .inr ⟨w.heap.size, 2, _, rfl, Nat.zero_le _, hh, Nat.le_refl _, by unfold maxLen; omega, by rfl, by rfl⟩⟩
  · have e : (madeCells (Value.cells (.int .u32 0)) (sz * 1)).toList = (List.replicate sz 0).map fun (x : Nat) => Value.int .u32 (x : Int) := by
      rw [Nat.mul_one]
      rw [show Value.cells (.int .u32 0) = #[.int .u32 0] by rfl, toList_madeCells_one]
      simp
    rw [e] at ht
    have := ownsRow_of_block (w' := w2.alloc (.cells #[.slice (some ⟨w.heap.size, 0, none⟩) 2 2, .slice (some ⟨wc.heap.size, 0, none⟩) sz sz, .int .i64 most] 143)) ht (by rw [heap_alloc_old _ _ (by omega)])
    simpa using this
  · exact (hw.grown hgr hwz (by intro k h; cases h)).alloc (by omega) _

set_option maxRecDepth 100000 in
set_option maxHeartbeats 1000000 in
theorem new_st (w : World) (most : Nat) (h2 : 2 ≤ most) (hm : most ≤ 1048576) :
    Calls Try.prog 14 #[.int .i64 most] w fun e w' =>
      ∃ b s, e = .returned (.tuple #[.pointer (some ⟨b, 0, none⟩), .nilIface]) ∧ StoreAt w' b s ∧ s.σ = [nd0, nd1] ∧ s.most = most ∧ Below w.heap.size w w' ∧ w.heap.size ≤ b ∧ w.heap.size ≤ s.nb ∧ w.heap.size ≤ s.tb := by
  have hq : IntKind.i64.wrap (2 * (most : Int)) = 2 * most := IntWalk.i64_in _ (by omega)
  obtain ⟨i0, hi0, hz0, hz1, hzb⟩ := info_parts Try.infoID
  go_enter Try.func14, Try.ntmps14
  go_wp2
  go_loop [4] (fun i => ∃ (sz : Nat), i = .int .i64 sz ∧ 8 ≤ sz ∧ (sz = 8 ∨ sz < 4 * most)) (fun i => (4 * most + 8 - (intOf i).toNat))
  case atStart => exact ⟨8, rfl, by omega, .inl rfl⟩
  case round =>
    obtain ⟨sz, rfl, h8, hor⟩ := hrel
    have hq2 : IntKind.i64.wrap ((sz : Int) * 2) = (2 * sz : Nat) := by rw [IntWalk.i64_in _ (by omega)]; omega
    by_cases hlt : sz < 2 * most
    · go_wp2
      go_round
      case rel => exact ⟨2 * sz, rfl, by omega, .inr (by omega)⟩
      case measure => simp [intOf]; omega
    · have hle : sz ≤ 4194304 := by omega
      go_wp2_with (first | (at_make; refine wpList_make_full _ rfl _ _ _ rfl 0 33 i0 _ 1 Try.underlying49 hi0 hz0 hz1 _ _ _ _ sz rfl rfl rfl rfl (by rw [hzb]; omega) (by unfold maxLen; omega) (Nat.zero_le _) ?_; intro w2 ht hgr) | go_in)
      go_ret2
      obtain ⟨hst, hbl⟩ := fresh_at (w := w) (wc := w.alloc (.cells #[.int .u32 0, .int .u32 0, .int .u32 0, .int .u32 0, .int .i64 0, .int .u64 0, .int .u32 0, .int .u32 0, .int .u32 0, .int .u32 0, .int .i64 0, .int .u64 1] 140)) (gt := w.heap.size + 1) (most := most)
        ((Below.refl _ _).alloc (Nat.le_refl _) _) (heap_alloc_new _ _) (by simp) (by simpa using ht) hgr rfl rfl h2 hm (by omega) hle
      have hsz := hbl.size
      have hlt2 := (ht.lt _ rfl).2
      simp at hlt2
      exact ⟨w2.heap.size, by rfl, _, hst, rfl, rfl, hbl, by omega, Nat.le_refl _, by simp⟩
end Go.Proofs.Ytkelfgigigcnjaa
