/-
  view's Tell of a commit at what the law's example asks.
-/
import Derived.Test.YtdgfdkclaagdnaaVt
import Derived.Deep.MidRow
import Derived.Deep.WholeRow
namespace Go.Proofs.Ytdgfdkclaagdnaa
open Go.RowKit Go.Bv

def mapOne : Array MapEntry × Nat := (#[{ key := .agg #[.int .i64 4, .int .i64 0], val := bits1, born := 0 }], 1)
theorem mput_one : mput pairEq (.agg #[.int .i64 4, .int .i64 0]) bits1 (#[], 0) = mapOne := rfl

set_option maxRecDepth 100000 in
set_option maxHeartbeats 4000000 in
theorem tell_commit (w : World) (b r gg cap : Nat) (hv : VwAt w b r 0 0 (.slice (some ⟨gg, 0, none⟩) 1 cap) (#[], 0)) (hc : ∀ i, i < 18 → w.cell? ⟨gg, i, none⟩ = chgCells[i]?) (hgl : gg < w.heap.size) :
    Calls Try.prog 22 #[.pointer (some ⟨b, 0, none⟩), .agg #[.int .u8 35, .int .i64 0, .int .i64 0, .int .i64 0, .int .i64 0, .bool false, .int .i64 0, .int .u64 1, .int .u64 0, .int .i64 0, .string ⟨#[]⟩, .slice none 0 0]] w
      fun e w' => e = .returned .nilIface ∧ VwAt w' b r 1 1 (.slice none 0 0) mapOne ∧ Only [b, r] w w' := by
  have hbz : b < w.heap.size := (Array.getElem?_eq_some_iff.1 hv.blk).1
  have hr := mapAt_lt hv.map
  have c0 := cell_of_blk hv.blk 0
  have c1 := cell_of_blk hv.blk 1
  have c2 := cell_of_blk hv.blk 2
  have c3 := cell_of_blk hv.blk 3
  have c4 := cell_of_blk hv.blk 4
  have c5 := cell_of_blk hv.blk 5
  have c6 := cell_of_blk hv.blk 6
  simp at c0 c1 c2 c3 c4 c5 c6
  have HV := Lib.hid hv
  have HC := Lib.hid hc
  clear hv hc
  go_enter Try.func22, Try.ntmps22
  obtain ⟨W, hWe⟩ : ∃ W, W = w.alloc (.cells #[.int .u8 35, .int .i64 0, .int .i64 0, .int .i64 0, .int .i64 0, .bool false, .int .i64 0, .int .u64 1, .int .u64 0, .int .i64 0, .string ⟨#[]⟩, .slice none 0 0] 43) := ⟨_, rfl⟩
  go_wp2_with fail
  rw [← hWe]
  have hwW : Below w.heap.size w W := by rw [hWe]; exact below_a1 w _
  have hM : W.heap[w.heap.size]? = some (.cells #[.int .u8 35, .int .i64 0, .int .i64 0, .int .i64 0, .int .i64 0, .bool false, .int .i64 0, .int .u64 1, .int .u64 0, .int .i64 0, .string ⟨#[]⟩, .slice none 0 0] 43 (0, 0)) := by rw [hWe]; exact blk1_0 w _
  have hB := kept hwW HV.out.blk
  have hmap : mapAt W r = some (#[], 0) := by rw [mapAt_of_block (hwW.block r hr)]; exact HV.out.map
  have m0 := cell_of_blk hM 0
  have m4 := cell_of_blk hM 7
  have m5 := cell_of_blk hM 8
  simp at m0 m4 m5
  have d1 := cell_of_blk hB 1
  have d2 := cell_of_blk hB 2
  have d4 := cell_of_blk hB 4
  have d5 := cell_of_blk hB 5
  have d6 := cell_of_blk hB 6
  simp at d1 d2 d4 d5 d6
  have hcW : ∀ i, i < 18 → W.cell? ⟨gg, i, none⟩ = chgCells[i]? := fun i hi => by rw [hwW.cell (by simp; omega)]; exact HC.out i hi
  have hrange : W.rangeAt gg 0 chgCells := fun j v hv => by
    rw [Nat.zero_add, hcW j (List.getElem?_eq_some_iff.1 hv).1]; exact hv
  have HR := Lib.hid hrange
  clear hrange
  have HM := Lib.hid hM
  have HB := Lib.hid hB
  have HW := Lib.hid hwW
  have HMap := Lib.hid hmap
  have hbW : b < W.heap.size := by have := hwW.size; omega
  have hrW : r < W.heap.size := by have := hwW.size; omega
  clear hM hB hwW hmap hcW c0 c1 c2 c3 c4 c5 c6 hWe
  go_quiet (fail)
  revert nq
  intro nA
  go_wp2_with fail
  go_quiet (fail)
  revert nq
  intro nB
  go_wp2_with fail
  refine wp_loop_rounds 2 ?_
  rw [rounds_succ]
  have hld : ∀ n, (W.drewN n).rangeAt gg 0 chgCells := fun n => HR.out
  have HLD := Lib.hid hld
  clear hld
  have hst : ∀ n, (storeCells ⟨W.heap.size, 0, none⟩ chgCells 0).run Try.prog ((W.drewN n).alloc (.cells #[.int .i64 0, .int .i64 0, .int .u16 0, .int .u16 0, .int .u16 0, .int .u16 0, .int .u16 0, .int .u16 0, .int .u16 0, .int .u16 0, .int .u16 0, .int .u16 0, .int .u16 0, .int .u16 0, .int .u16 0, .int .u16 0, .int .u16 0, .int .u16 0] 95)) = .ok () ((W.drewN n).alloc (.cells #[.int .i64 4, .int .i64 0, .int .u16 1, .int .u16 0, .int .u16 0, .int .u16 0, .int .u16 0, .int .u16 0, .int .u16 0, .int .u16 0, .int .u16 0, .int .u16 0, .int .u16 0, .int .u16 0, .int .u16 0, .int .u16 0, .int .u16 0, .int .u16 0] 95)) := fun n =>
    run_storeCells_new (P := Try.prog) (W.drewN n) 95 #[.int .i64 0, .int .i64 0, .int .u16 0, .int .u16 0, .int .u16 0, .int .u16 0, .int .u16 0, .int .u16 0, .int .u16 0, .int .u16 0, .int .u16 0, .int .u16 0, .int .u16 0, .int .u16 0, .int .u16 0, .int .u16 0, .int .u16 0, .int .u16 0] #[.int .i64 4, .int .i64 0, .int .u16 1, .int .u16 0, .int .u16 0, .int .u16 0, .int .u16 0, .int .u16 0, .int .u16 0, .int .u16 0, .int .u16 0, .int .u16 0, .int .u16 0, .int .u16 0, .int .u16 0, .int .u16 0, .int .u16 0, .int .u16 0] (by kernel_rfl) rfl (by kernel_rfl)
  go_wp2_with (refine wpList_load_mid rfl 95 _ rfl gg 0 rfl chgCells _ (HLD.out _) Try.underlying95 rfl (by kernel_rfl) ?_)
  clear hst
  generalize (nA + nB) = nn
  obtain ⟨V, hVe⟩ : ∃ V, V = (W.drewN nn).alloc (.cells #[.int .i64 4, .int .i64 0, .int .u16 1, .int .u16 0, .int .u16 0, .int .u16 0, .int .u16 0, .int .u16 0, .int .u16 0, .int .u16 0, .int .u16 0, .int .u16 0, .int .u16 0, .int .u16 0, .int .u16 0, .int .u16 0, .int .u16 0, .int .u16 0] 95) := ⟨_, rfl⟩
  rw [← hVe]
  have hWV : Below W.heap.size W V := by rw [hVe]; exact ((bdrewN W nn).alloc (Nat.le_refl _) _)
  have hCV : V.heap[W.heap.size]? = some (.cells #[.int .i64 4, .int .i64 0, .int .u16 1, .int .u16 0, .int .u16 0, .int .u16 0, .int .u16 0, .int .u16 0, .int .u16 0, .int .u16 0, .int .u16 0, .int .u16 0, .int .u16 0, .int .u16 0, .int .u16 0, .int .u16 0, .int .u16 0, .int .u16 0] 95 (0, 0)) := by rw [hVe]; exact blk1_0 (W.drewN nn) _
  have hBV := kept hWV HB.out
  have hmV : mapAt V r = some (#[], 0) := by rw [mapAt_of_block (hWV.block r hrW)]; exact HMap.out
  have v4 := cell_of_blk hBV 4
  have x0 := cell_of_blk hCV 0
  have x1 := cell_of_blk hCV 1
  have x2 := cell_of_blk hCV 2
  have x3 := cell_of_blk hCV 3
  have x4 := cell_of_blk hCV 4
  have x5 := cell_of_blk hCV 5
  have x6 := cell_of_blk hCV 6
  have x7 := cell_of_blk hCV 7
  have x8 := cell_of_blk hCV 8
  have x9 := cell_of_blk hCV 9
  have x10 := cell_of_blk hCV 10
  have x11 := cell_of_blk hCV 11
  have x12 := cell_of_blk hCV 12
  have x13 := cell_of_blk hCV 13
  have x14 := cell_of_blk hCV 14
  have x15 := cell_of_blk hCV 15
  have x16 := cell_of_blk hCV 16
  have x17 := cell_of_blk hCV 17
  simp at v4 x0 x1 x2 x3 x4 x5 x6 x7 x8 x9 x10 x11 x12 x13 x14 x15 x16 x17
  have hbits : V.rangeAt W.heap.size 2 [.int .u16 1, .int .u16 0, .int .u16 0, .int .u16 0, .int .u16 0, .int .u16 0, .int .u16 0, .int .u16 0, .int .u16 0, .int .u16 0, .int .u16 0, .int .u16 0, .int .u16 0, .int .u16 0, .int .u16 0, .int .u16 0] := fun j v hv => by
    rw [cell_of_blk hCV]
    have hj := (List.getElem?_eq_some_iff.1 hv).1
    simp at hj
    obtain rfl | rfl | rfl | rfl | rfl | rfl | rfl | rfl | rfl | rfl | rfl | rfl | rfl | rfl | rfl | rfl : j = 0 ∨ j = 1 ∨ j = 2 ∨ j = 3 ∨ j = 4 ∨ j = 5 ∨ j = 6 ∨ j = 7 ∨ j = 8 ∨ j = 9 ∨ j = 10 ∨ j = 11 ∨ j = 12 ∨ j = 13 ∨ j = 14 ∨ j = 15 := by omega
    all_goals exact hv
  have hmu : (Instr.mapUpdate 98 (.map (some r)) (.agg #[.int .i64 4, .int .i64 0]) bits1).run Try.prog V.drew = .ok () (setMap V.drew r mapOne) := by
    rw [run_mapUpdate_at key_pt Try.underlying98 (w := V.drew) (m := (#[], 0)) (by rw [mapAt_drew]; exact hmV) (pairOf_mk _ _ _ _) (by simp) bits1]; rfl
  unfold bits1 at hmu
  obtain ⟨U, hUe⟩ : ∃ U, U = setMap V.drew r mapOne := ⟨_, rfl⟩
  rw [← hUe] at hmu
  have hbr : b ≠ r := by
    intro e
    have h1 := mapAt_heap hmV
    rw [← e, hBV] at h1; cases h1
  have hBU := (heap_setMap V.drew r mapOne b hbr).trans hBV
  have hCU := (heap_setMap V.drew r mapOne W.heap.size (by omega)).trans hCV
  have hmU : mapAt U r = some mapOne := by rw [hUe]; exact mapAt_setMap_same _ _ _ (mapAt_lt hmV)
  have hsU : U.heap.size = V.heap.size := by rw [hUe]; simp
  rw [← hUe] at hBU hCU
  have hbitsU : U.rangeAt W.heap.size 2 [.int .u16 1, .int .u16 0, .int .u16 0, .int .u16 0, .int .u16 0, .int .u16 0, .int .u16 0, .int .u16 0, .int .u16 0, .int .u16 0, .int .u16 0, .int .u16 0, .int .u16 0, .int .u16 0, .int .u16 0, .int .u16 0] := fun j v hv => by
    have h1 := hbits j v hv
    rw [cell_of_blk hCV] at h1
    rw [cell_of_blk hCU]; exact h1
  have HBitsU := Lib.hid hbitsU
  have HBU := Lib.hid hBU
  have HMU := Lib.hid hmU
  have HUE := Lib.hid hUe
  have HSU := Lib.hid hsU
  have HBV := Lib.hid hBV
  have HWV := Lib.hid hWV
  have HMV := Lib.hid hmV
  have hMU : U.heap[w.heap.size]? = some (.cells #[.int .u8 35, .int .i64 0, .int .i64 0, .int .i64 0, .int .i64 0, .bool false, .int .i64 0, .int .u64 1, .int .u64 0, .int .i64 0, .string ⟨#[]⟩, .slice none 0 0] 43 (0, 0)) := by
    rw [hUe, heap_setMap _ _ _ _ (by omega)]; exact kept hWV HM.out
  have HMsgU := Lib.hid hMU
  clear hVe hWV hCV hBV hmV hbits hbitsU hBU hCU hmU hsU hUe hMU
  clear d1 d2 d4 d5 d6 m0 m4 m5
  refine still_last mix (by decide +kernel) ?_
  simp only [List.length_cons, List.length_nil, Nat.reduceAdd, Nat.reduceSub, List.take_succ_cons, List.take_zero, List.drop_succ_cons, List.drop_zero]
  repeat still_step
  refine wpStill_nil ?_
  clear x0 x1 x2 x3 x4 x5 x6 x7 x8 x9 x10 x11 x12 x13 x14 x15 x16 x17 v4
  go_wp2_with (refine wpList_load_mid rfl 55 _ rfl W.heap.size 2 rfl [.int .u16 1, .int .u16 0, .int .u16 0, .int .u16 0, .int .u16 0, .int .u16 0, .int .u16 0, .int .u16 0, .int .u16 0, .int .u16 0, .int .u16 0, .int .u16 0, .int .u16 0, .int .u16 0, .int .u16 0, .int .u16 0] _ HBitsU.out Try.underlying55 rfl (by kernel_rfl) ?_)
  refine (dark_1 U).mono ?_
  rintro e w7 ⟨rfl, hb7⟩
  have hB7 := kept hb7 HBU.out
  have hM7 := kept hb7 HMsgU.out
  have u3 := cell_of_blk hB7 3
  have w1 := free_of_blk hB7 1
  have w2 := free_of_blk hB7 2
  have w3 := free_of_blk hB7 3
  have w5 := free_of_blk hB7 5
  have w6 := free_of_blk hB7 6
  have y1 := cell_of_blk hB7 1
  have y2 := cell_of_blk hB7 2
  have y5 := cell_of_blk hB7 5
  have y6 := cell_of_blk hB7 6
  have q4 := cell_of_blk hM7 7
  have q5 := cell_of_blk hM7 8
  simp at u3 y1 y2 y5 y6 q4 q5
  have HB7 := Lib.hid hB7
  have HBl7 := Lib.hid hb7
  have hlt7 : w.heap.size < w7.heap.size := (Array.getElem?_eq_some_iff.1 hM7).1
  clear hb7 hB7 hM7
  go_wp2_with fail
  rw [rounds_succ]
  go_wp2_with fail
  obtain ⟨X, hXe⟩ : ∃ X, X = (w7.setCell ⟨b, 5, none⟩ (.slice none 0 0)).setCell ⟨b, 6, none⟩ (.bool false) := ⟨_, rfl⟩
  rw [← hXe]
  have hBX : X.heap[b]? = some (.cells #[.int .i64 0, .int .u64 0, .int .u64 0, .int .i64 0, .map (some r), .slice none 0 0, .bool false] 100 (0, 0)) := by
    rw [hXe, heap_setCell_same _ _ _ _ _ _ (heap_setCell_same _ _ _ _ _ _ HB7.out)]; rfl
  have xM4 : X.cell? ⟨w.heap.size, 7, none⟩ = some (.int .u64 1) := by
    rw [hXe, World.cell?_setCell_other _ _ _ _ (by simp), World.cell?_setCell_other _ _ _ _ (by simp)]; exact q4
  have xM5 : X.cell? ⟨w.heap.size, 8, none⟩ = some (.int .u64 0) := by
    rw [hXe, World.cell?_setCell_other _ _ _ _ (by simp), World.cell?_setCell_other _ _ _ _ (by simp)]; exact q5
  have z1 := cell_of_blk hBX 1
  have z2 := cell_of_blk hBX 2
  have z3 := cell_of_blk hBX 3
  have f1 := free_of_blk hBX 1
  have f2 := free_of_blk hBX 2
  have f3 := free_of_blk hBX 3
  simp at z1 z2 z3
  have HBX := Lib.hid hBX
  have HXE := Lib.hid hXe
  clear hBX hXe u3 w1 w2 w3 w5 w6 y1 y2 y5 y6 q4 q5
  go_region
  all_goals go_wp2
  all_goals go_ret
  refine ⟨rfl, ?_, ?_⟩
  · refine ⟨?_, ?_⟩
    · show ((((X.setCell _ _).setCell _ _).setCell _ _) : World).heap[b]? = _
      rw [heap_setCell_same _ _ _ _ _ _ (heap_setCell_same _ _ _ _ _ _ (heap_setCell_same _ _ _ _ _ _ HBX.out))]; rfl
    · rw [mapAt_drew, mapAt_setCell, mapAt_setCell, mapAt_setCell, HXE.out, mapAt_setCell, mapAt_setCell, mapAt_of_block (HBl7.out.block r (mapAt_lt HMU.out))]
      exact HMU.out
  · have o1 : Only [b, r] w W := Only.of_below HW.out
    have o2 : Only [b, r] w V := o1.trans (Only.of_below HWV.out)
    have o3 : Only [b, r] w U := by
      refine ⟨by rw [HUE.out]; exact o2.os, by rw [HUE.out]; exact o2.tape, by rw [HUE.out]; exact o2.output, by rw [HSU.out]; exact o2.size, fun k hk hn => ?_⟩
      rw [HUE.out, heap_setMap _ _ _ _ (by intro e; subst e; simp at hn)]
      exact o2.block k hk hn
    have o4 : Only [b, r] w w7 := o3.trans (Only.of_below HBl7.out)
    rw [HXE.out]
    exact (((((o4.setCell (by simp) _).setCell (by simp) _).setCell (by simp) _).setCell (by simp) _).setCell (by simp) _).drew
end Go.Proofs.Ytdgfdkclaagdnaa
