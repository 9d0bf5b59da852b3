/-
  The example of the law of views.
-/
import Derived.Test.YtdgfdkclaagdnaaVu
namespace Go.Proofs.Ytdgfdkclaagdnaa
open Go.RowKit Go.Bv

set_option maxRecDepth 100000 in
theorem commits_vw (w : World) (b r : Nat) (gen commits : Int) (waits : Value) (m : Array MapEntry × Nat) (hv : VwAt w b r gen commits waits m) :
    Calls Try.prog 25 #[.pointer (some ⟨b, 0, none⟩)] w fun e w' => e = .returned (.int .i64 commits) ∧ w = w' := by
  have c3 := cell_of_blk hv.blk 3
  simp at c3
  clear hv
  go_enter Try.func25, Try.ntmps25
  go_wp2
  go_ret
  exact ⟨rfl, rfl⟩

theorem VwAt.below {w w' : World} {b r : Nat} {gen commits : Int} {waits : Value} {m : Array MapEntry × Nat} (h : VwAt w b r gen commits waits m) (hb : Below w.heap.size w w') : VwAt w' b r gen commits waits m :=
  ⟨kept hb h.blk, by rw [mapAt_of_block (hb.block r (mapAt_lt h.map))]; exact h.map⟩

theorem chg_facts {w : World} {g : Nat} (h : w.heap[g]? = some (.cells chgCells.toArray 95 (0, 0))) : w.cell? ⟨g, 0, none⟩ = some (.int .i64 4) ∧ w.cell? ⟨g, 1, none⟩ = some (.int .i64 0) ∧ w.cell? ⟨g, 2, none⟩ = some (.int .u16 1) ∧ w.cell? ⟨g, 3, none⟩ = some (.int .u16 0) ∧ w.cell? ⟨g, 4, none⟩ = some (.int .u16 0) ∧ w.cell? ⟨g, 5, none⟩ = some (.int .u16 0) ∧ w.cell? ⟨g, 6, none⟩ = some (.int .u16 0) ∧ w.cell? ⟨g, 7, none⟩ = some (.int .u16 0) ∧ w.cell? ⟨g, 8, none⟩ = some (.int .u16 0) ∧ w.cell? ⟨g, 9, none⟩ = some (.int .u16 0) ∧ w.cell? ⟨g, 10, none⟩ = some (.int .u16 0) ∧ w.cell? ⟨g, 11, none⟩ = some (.int .u16 0) ∧ w.cell? ⟨g, 12, none⟩ = some (.int .u16 0) ∧ w.cell? ⟨g, 13, none⟩ = some (.int .u16 0) ∧ w.cell? ⟨g, 14, none⟩ = some (.int .u16 0) ∧ w.cell? ⟨g, 15, none⟩ = some (.int .u16 0) ∧ w.cell? ⟨g, 16, none⟩ = some (.int .u16 0) ∧ w.cell? ⟨g, 17, none⟩ = some (.int .u16 0) :=
  ⟨cell_of_blk h 0, cell_of_blk h 1, cell_of_blk h 2, cell_of_blk h 3, cell_of_blk h 4, cell_of_blk h 5, cell_of_blk h 6, cell_of_blk h 7, cell_of_blk h 8, cell_of_blk h 9, cell_of_blk h 10, cell_of_blk h 11, cell_of_blk h 12, cell_of_blk h 13, cell_of_blk h 14, cell_of_blk h 15, cell_of_blk h 16, cell_of_blk h 17⟩
theorem bits_facts {w : World} {g : Nat} (h : w.heap[g]? = some (.cells #[.int .u16 0, .int .u16 0, .int .u16 0, .int .u16 0, .int .u16 0, .int .u16 0, .int .u16 0, .int .u16 0, .int .u16 0, .int .u16 0, .int .u16 0, .int .u16 0, .int .u16 0, .int .u16 0, .int .u16 0, .int .u16 0] 55 (0, 0))) : w.cell? ⟨g, 0, none⟩ = some (.int .u16 0) ∧ w.cell? ⟨g, 1, none⟩ = some (.int .u16 0) ∧ w.cell? ⟨g, 2, none⟩ = some (.int .u16 0) ∧ w.cell? ⟨g, 3, none⟩ = some (.int .u16 0) ∧ w.cell? ⟨g, 4, none⟩ = some (.int .u16 0) ∧ w.cell? ⟨g, 5, none⟩ = some (.int .u16 0) ∧ w.cell? ⟨g, 6, none⟩ = some (.int .u16 0) ∧ w.cell? ⟨g, 7, none⟩ = some (.int .u16 0) ∧ w.cell? ⟨g, 8, none⟩ = some (.int .u16 0) ∧ w.cell? ⟨g, 9, none⟩ = some (.int .u16 0) ∧ w.cell? ⟨g, 10, none⟩ = some (.int .u16 0) ∧ w.cell? ⟨g, 11, none⟩ = some (.int .u16 0) ∧ w.cell? ⟨g, 12, none⟩ = some (.int .u16 0) ∧ w.cell? ⟨g, 13, none⟩ = some (.int .u16 0) ∧ w.cell? ⟨g, 14, none⟩ = some (.int .u16 0) ∧ w.cell? ⟨g, 15, none⟩ = some (.int .u16 0) :=
  ⟨cell_of_blk h 0, cell_of_blk h 1, cell_of_blk h 2, cell_of_blk h 3, cell_of_blk h 4, cell_of_blk h 5, cell_of_blk h 6, cell_of_blk h 7, cell_of_blk h 8, cell_of_blk h 9, cell_of_blk h 10, cell_of_blk h 11, cell_of_blk h 12, cell_of_blk h 13, cell_of_blk h 14, cell_of_blk h 15⟩

set_option maxRecDepth 100000 in
set_option maxHeartbeats 8000000 in
theorem lives_v (w : World) : Calls Try.prog 20 #[] w fun e w' => e = .returned (.bool true) ∧ Below w.heap.size w w' := by
  go_enter Try.func20, Try.ntmps20
  go_wp2_with fail
  refine (new_vw _).mono ?_
  rintro e w1 ⟨rfl, hw1⟩
  have hb1 : Below w.heap.size w w1 := by rw [← hw1]; exact below_a2 w _ _
  have hv1 : VwAt w1 (w.heap.size + 1) w.heap.size 0 0 (.slice none 0 0) (#[], 0) := by
    rw [← hw1]
    refine ⟨blk2_1 w _ _, ?_⟩
    exact mapAt_of_heap (blk2_0 w _ _)
  have HB1 := Lib.hid hb1
  have HV1 := Lib.hid hv1
  clear hw1 hb1 hv1
  go_wp2_with (first
    | (refine wpList_store_row rfl 95 _ _ rfl w1.heap.size #[.int .i64 4, .int .i64 0, .int .u16 1, .int .u16 0, .int .u16 0, .int .u16 0, .int .u16 0, .int .u16 0, .int .u16 0, .int .u16 0, .int .u16 0, .int .u16 0, .int .u16 0, .int .u16 0, .int .u16 0, .int .u16 0, .int .u16 0, .int .u16 0] rfl rfl 95 #[.int .i64 0, .int .i64 0, .int .u16 0, .int .u16 0, .int .u16 0, .int .u16 0, .int .u16 0, .int .u16 0, .int .u16 0, .int .u16 0, .int .u16 0, .int .u16 0, .int .u16 0, .int .u16 0, .int .u16 0, .int .u16 0, .int .u16 0, .int .u16 0] (heap_alloc_new _ _) (by kernel_rfl) rfl (by kernel_rfl) ?_; rw [World.setRow_alloc_new])
    | (refine wpList_load_row rfl 95 _ rfl w1.heap.size rfl 95 #[.int .i64 4, .int .i64 0, .int .u16 1, .int .u16 0, .int .u16 0, .int .u16 0, .int .u16 0, .int .u16 0, .int .u16 0, .int .u16 0, .int .u16 0, .int .u16 0, .int .u16 0, .int .u16 0, .int .u16 0, .int .u16 0, .int .u16 0, .int .u16 0] (0, 0) _ (heap_alloc_new _ _) Try.underlying95 rfl (by kernel_rfl) ?_))
  obtain ⟨w2, hw2⟩ : ∃ w2, w2 = ((w1.alloc (.cells #[.int .i64 4, .int .i64 0, .int .u16 1, .int .u16 0, .int .u16 0, .int .u16 0, .int .u16 0, .int .u16 0, .int .u16 0, .int .u16 0, .int .u16 0, .int .u16 0, .int .u16 0, .int .u16 0, .int .u16 0, .int .u16 0, .int .u16 0, .int .u16 0] 95)).alloc (.cells #[.int .i64 4, .int .i64 0, .int .u16 1, .int .u16 0, .int .u16 0, .int .u16 0, .int .u16 0, .int .u16 0, .int .u16 0, .int .u16 0, .int .u16 0, .int .u16 0, .int .u16 0, .int .u16 0, .int .u16 0, .int .u16 0, .int .u16 0, .int .u16 0] 95)) := ⟨_, rfl⟩
  rw [← hw2]
  have hb2 : Below w1.heap.size w1 w2 := by rw [hw2]; exact below_a2 _ _ _
  have k1 : w2.heap[w1.heap.size]? = some (.cells chgCells.toArray 95 (0, 0)) := by rw [hw2]; exact blk2_0 _ _ _
  have k2 : w2.heap[w1.heap.size + 1]? = some (.cells chgCells.toArray 95 (0, 0)) := by rw [hw2]; exact blk2_1 _ _ _
  have HV2 := Lib.hid (HV1.out.below hb2)
  have HB2 := Lib.hid (below_then HB1.out hb2)
  have HK1 := Lib.hid k1
  have l12 : w1.heap.size < w2.heap.size := (Array.getElem?_eq_some_iff.1 k1).1
  refine (tell_tiles _ _ _ _ _ HV2.out k2).mono ?_
  rintro e w3 ⟨rfl, gg, cap, hv3, hc3, hl3, hg3, ho3⟩
  have hb3 : Below w.heap.size w w3 := HB2.out.trans (ho3.below HB2.out.size (by simp))
  have k3 : w3.heap[w1.heap.size]? = some (.cells chgCells.toArray 95 (0, 0)) := (ho3.block _ l12 (by have := HB1.out.size; have := (Array.getElem?_eq_some_iff.1 HV1.out.blk).1; simp; omega)).trans HK1.out
  have HV3 := Lib.hid hv3
  have HC3 := Lib.hid hc3
  have HL3 := Lib.hid hl3
  have HB3 := Lib.hid hb3
  have HK3 := Lib.hid k3
  have t0 := cell_of_blk k3 0
  have t1 := cell_of_blk k3 1
  simp [chgCells] at t0 t1
  clear hw2 hb2 k1 k2 l12 hv3 hc3 hl3 hg3 ho3 hb3 k3
  go_wp2_with fail
  refine (at_vw _ _ _ _ _ _ _ _ _ bits0 HV3.out (by simp) rfl (.inl rfl)).mono ?_
  rintro e w4 ⟨rfl, hb4⟩
  have k4 := kept hb4 HK3.out
  have HV4 := Lib.hid (HV3.out.below hb4)
  have HB4 := Lib.hid (below_then HB3.out hb4)
  have HK4 := Lib.hid k4
  have hc4 : ∀ i, i < 18 → w4.cell? ⟨gg, i, none⟩ = chgCells[i]? := fun i hi => by rw [hb4.cell HL3.out]; exact HC3.out i hi
  have HC4 := Lib.hid hc4
  have HL4 := Lib.hid (Nat.lt_of_lt_of_le HL3.out hb4.size)
  clear hb4 k4 hc4 t0 t1
  unfold bits0
  go_wp2_with (refine wpList_store_row rfl 55 _ _ rfl w4.heap.size #[.int .u16 0, .int .u16 0, .int .u16 0, .int .u16 0, .int .u16 0, .int .u16 0, .int .u16 0, .int .u16 0, .int .u16 0, .int .u16 0, .int .u16 0, .int .u16 0, .int .u16 0, .int .u16 0, .int .u16 0, .int .u16 0] rfl rfl 55 #[.int .u16 0, .int .u16 0, .int .u16 0, .int .u16 0, .int .u16 0, .int .u16 0, .int .u16 0, .int .u16 0, .int .u16 0, .int .u16 0, .int .u16 0, .int .u16 0, .int .u16 0, .int .u16 0, .int .u16 0, .int .u16 0] (heap_alloc_new _ _) (by kernel_rfl) rfl (by kernel_rfl) ?_; rw [World.setRow_alloc_new])
  obtain ⟨w5, hw5⟩ : ∃ w5, w5 = w4.alloc (.cells #[.int .u16 0, .int .u16 0, .int .u16 0, .int .u16 0, .int .u16 0, .int .u16 0, .int .u16 0, .int .u16 0, .int .u16 0, .int .u16 0, .int .u16 0, .int .u16 0, .int .u16 0, .int .u16 0, .int .u16 0, .int .u16 0] 55) := ⟨_, rfl⟩
  rw [← hw5]
  have hb5 : Below w4.heap.size w4 w5 := by rw [hw5]; exact below_a1 _ _
  have k5 := kept hb5 HK4.out
  have kb5 : w5.heap[w4.heap.size]? = some (.cells #[.int .u16 0, .int .u16 0, .int .u16 0, .int .u16 0, .int .u16 0, .int .u16 0, .int .u16 0, .int .u16 0, .int .u16 0, .int .u16 0, .int .u16 0, .int .u16 0, .int .u16 0, .int .u16 0, .int .u16 0, .int .u16 0] 55 (0, 0)) := by rw [hw5]; exact blk1_0 _ _
  have HV5 := Lib.hid (HV4.out.below hb5)
  have hc5 : ∀ i, i < 18 → w5.cell? ⟨gg, i, none⟩ = chgCells[i]? := fun i hi => by rw [hb5.cell HL4.out]; exact HC4.out i hi
  refine (tell_commit _ _ _ _ _ HV5.out hc5 (Nat.lt_of_lt_of_le HL4.out hb5.size)).mono ?_
  rintro e w6 ⟨rfl, hv6, ho6⟩
  have hl5 : w4.heap.size < w5.heap.size := (Array.getElem?_eq_some_iff.1 kb5).1
  have hlv := (Array.getElem?_eq_some_iff.1 HV4.out.blk).1
  have hl1 : w1.heap.size < w4.heap.size := (Array.getElem?_eq_some_iff.1 HK4.out).1
  have hlw : w.heap.size + 1 < w1.heap.size := (Array.getElem?_eq_some_iff.1 HV1.out.blk).1
  have k6 := (ho6.block w1.heap.size (by omega) (by simp; omega)).trans k5
  have kb6 := (ho6.block w4.heap.size hl5 (by simp; omega)).trans kb5
  have hb6 : Below w.heap.size w w6 := (below_then HB4.out hb5).trans (ho6.below (by have := (below_then HB4.out hb5).size; exact this) (by simp))
  have HV6 := Lib.hid hv6
  have HB6 := Lib.hid hb6
  have HK6 := Lib.hid k6
  obtain ⟨a0, a1, a2, a3, a4, a5, a6, a7, a8, a9, a10, a11, a12, a13, a14, a15, a16, a17⟩ := chg_facts k6
  obtain ⟨z0, z1, z2, z3, z4, z5, z6, z7, z8, z9, z10, z11, z12, z13, z14, z15⟩ := bits_facts kb6
  have gen := cell_of_blk hv6.blk 1
  simp at gen
  clear hw5 hb5 k5 kb5 hc5 hv6 ho6 hl5 hlv hl1 hlw k6 kb6 hb6
  have e11 := bits_11
  unfold bits1 at e11
  go_wp2_with fail
  go_region_with (first
    | (go_at_call 46; refine (dark_0 _).mono ?_; rintro e w7 ⟨rfl, hb7⟩
       have k7 := kept (W := w6.drew) hb7 HK6.out
       obtain ⟨c0, c1, c2, c3, c4, c5, c6, c7, c8, c9, c10, c11, c12, c13, c14, c15, c16, c17⟩ := chg_facts k7
       have HV7 := Lib.hid ((HV6.out.below ((Below.refl _ _).drew)).below hb7)
       have gen7 := cell_of_blk HV7.out.blk 1
       simp at gen7
       have HB7 := Lib.hid (below_then HB6.out.drew hb7)
       have HK7 := Lib.hid k7
       clear hb7 k7)
    | (go_at_call 23; refine (at_vw _ _ _ _ _ _ _ _ _ bits1 HV7.out (by simp [mapOne]) (by simp [mapOne, mfind]) (.inr rfl)).mono ?_; rintro e w8 ⟨rfl, hb8⟩
       have k8 := kept hb8 HK7.out
       obtain ⟨d0, d1, d2, d3, d4, d5, d6, d7, d8, d9, d10, d11, d12, d13, d14, d15, d16, d17⟩ := chg_facts k8
       have HV8 := Lib.hid (HV7.out.below hb8)
       have gen8 := cell_of_blk HV8.out.blk 1
       simp at gen8
       have HB8 := Lib.hid (below_then HB7.out hb8)
       clear hb8 k8
       unfold bits1)
    | (go_at_call 25; refine (commits_vw _ _ _ _ _ _ _ HV8.out).mono ?_; rintro e w9 ⟨rfl, rfl⟩))
  all_goals go_wp2
  all_goals go_ret
  all_goals exact ⟨rfl, HB8.out⟩
end Go.Proofs.Ytdgfdkclaagdnaa
