/-
  view's Tell at what the law's example asks.
-/
import Derived.Test.YtdgfdkclaagdnaaVx
import Derived.Deep.RegionLawGrows
namespace Go.Proofs.Ytdgfdkclaagdnaa
open Go.RowKit Go.Bv

def chgCells : List Value := [.int .i64 4, .int .i64 0, .int .u16 1, .int .u16 0, .int .u16 0, .int .u16 0, .int .u16 0, .int .u16 0, .int .u16 0, .int .u16 0, .int .u16 0, .int .u16 0, .int .u16 0, .int .u16 0, .int .u16 0, .int .u16 0, .int .u16 0, .int .u16 0]
theorem Try.infoChg : (Try.prog.info? 95).map (fun i => (i.zero, i.size, i.bytes)) = some (some (.agg #[.int .i64 0, .int .i64 0, .int .u16 0, .int .u16 0, .int .u16 0, .int .u16 0, .int .u16 0, .int .u16 0, .int .u16 0, .int .u16 0, .int .u16 0, .int .u16 0, .int .u16 0, .int .u16 0, .int .u16 0, .int .u16 0, .int .u16 0, .int .u16 0]), 18, 48) := by kernel_rfl

set_option maxRecDepth 100000 in
theorem clip_nil (w : World) : Calls Try.prog 47 #[.slice none 0 0] w fun e w' => e = .returned (.slice none 0 0) ∧ w = w' := by
  go_enter Try.func47, Try.ntmps47
  go_wp2
  go_ret
  exact ⟨rfl, rfl⟩

/-- Behind the append of what waits. -/
def Waits (w : World) (b : Nat) (wc : World) : Prop :=
  ∃ gg cap w4, (∀ i, i < 18 → w4.cell? ⟨gg, i, none⟩ = chgCells[i]?) ∧ w.heap.size ≤ gg ∧ gg < w4.heap.size ∧ Only [] w w4 ∧ wc = w4.setCell ⟨b, 5, none⟩ (.slice (some ⟨gg, 0, none⟩) 1 cap)

/-- What the tiles that are told leave. -/
def Told (w : World) (b r : Nat) (m : Array MapEntry × Nat) (w' : World) : Prop :=
  ∃ gg cap, VwAt w' b r 0 0 (.slice (some ⟨gg, 0, none⟩) 1 cap) m ∧ (∀ i, i < 18 → w'.cell? ⟨gg, i, none⟩ = chgCells[i]?) ∧ gg < w'.heap.size ∧ w.heap.size ≤ gg ∧ Only [b] w w'
theorem told_of {w W wc : World} {b r : Nat} {m : Array MapEntry × Nat} (hv : VwAt w b r 0 0 (.slice none 0 0) m) (hW : Below w.heap.size w W) (h : Waits W b wc) : Told w b r m wc := by
  obtain ⟨gg, cap, w4, hc, hg, hl, ho, rfl⟩ := h
  have hb : b < w.heap.size := (Array.getElem?_eq_some_iff.1 hv.blk).1
  have hr := mapAt_lt hv.map
  have hbr : r ≠ b := by
    intro e
    have h1 := mapAt_heap hv.map
    rw [e, hv.blk] at h1; cases h1
  have hs := hW.size
  have hb4 : w4.heap[b]? = _ := (ho.block b (by omega) (by simp)).trans (kept hW hv.blk)
  have hr4 : w4.heap[r]? = w.heap[r]? := (ho.block r (by omega) (by simp)).trans (hW.block r hr)
  refine ⟨gg, cap, ⟨?_, ?_⟩, ?_, by rw [World.size_setCell]; exact hl, by omega, ?_⟩
  · rw [heap_setCell_same _ _ _ _ _ _ hb4]; rfl
  · rw [mapAt_setCell, mapAt_of_block hr4]; exact hv.map
  · intro i hi
    rw [World.cell?_of_block (w := w4) (heap_setCell_other _ _ _ _ (by simp; omega))]
    exact hc i hi
  · exact Only.setCell (((Only.of_below (F := []) hW).mono (F' := [b]) (by simp)).trans (ho.mono (by simp))) (by simp) _

set_option maxRecDepth 100000 in
set_option maxHeartbeats 2000000 in
theorem tell_tiles (w : World) (b r g : Nat) (m : Array MapEntry × Nat) (hv : VwAt w b r 0 0 (.slice none 0 0) m) (hg : w.heap[g]? = some (.cells chgCells.toArray 95 (0, 0))) :
    Calls Try.prog 22 #[.pointer (some ⟨b, 0, none⟩), .agg #[.int .u8 34, .int .i64 0, .int .i64 0, .int .i64 0, .int .i64 0, .bool false, .int .i64 0, .int .u64 0, .int .u64 0, .int .i64 0, .string ⟨#[]⟩, .slice (some ⟨g, 0, none⟩) 1 1]] w
      fun e w' => e = .returned .nilIface ∧ Told w b r m w' := by
  have hbz : b < w.heap.size := (Array.getElem?_eq_some_iff.1 hv.blk).1
  have c0 := cell_of_blk hv.blk 0
  have c5 := cell_of_blk hv.blk 5
  have f5 := free_of_blk hv.blk 5
  simp at c0 c5
  have HV := Lib.hid hv
  have HGG := Lib.hid hg
  clear hv hg
  have cz : ∀ o, (w.alloc o).cell? ⟨b, 0, none⟩ = some (.int .i64 0) := fun o => by rw [World.cell?_alloc_old _ _ _ (by simp; omega)]; exact c0
  go_enter Try.func22, Try.ntmps22
  go_wp2_with (first | (refine still_all mix (by decide +kernel) ?_; (repeat still_step); refine wpStill_nil ?_) | go_in)
  obtain ⟨W, hWe⟩ : ∃ W, W = (w.alloc (.cells #[.int .u8 34, .int .i64 0, .int .i64 0, .int .i64 0, .int .i64 0, .bool false, .int .i64 0, .int .u64 0, .int .u64 0, .int .i64 0, .string ⟨#[]⟩, .slice (some ⟨g, 0, none⟩) 1 1] 43)).drew := ⟨_, rfl⟩
  have hwW : Below w.heap.size w W := by rw [hWe]; exact (below_a1 w _).drew
  have d5 : W.cell? ⟨b, 5, none⟩ = some (.slice none 0 0) := by rw [hwW.cell (by simp; omega)]; exact c5
  have e5 : W.frozen? ⟨b, 5, none⟩ = false := by rw [hwW.frozen (by simp; omega)]; exact f5
  have d11 : W.cell? ⟨w.heap.size, 11, none⟩ = some (.slice (some ⟨g, 0, none⟩) 1 1) := by rw [hWe]; simp
  have hgW := kept hwW HGG.out
  have HGW := Lib.hid hgW
  have HWE := Lib.hid hWe
  have hbW : b < W.heap.size := by have := hwW.size; omega
  rw [← hWe]
  clear hWe hwW c0 c5 f5 cz hgW
  obtain ⟨in0, hi0, hz0, hz1, hz2⟩ := info_parts Try.infoChg
  go_cut [37] (fun _ wc => Waits W b wc)
  case first =>
    go_region_law (first
      | (go_simp; go_at_call 47; refine (clip_nil _).mono ?_; rintro e w3 ⟨rfl, rfl⟩)
      | (refine step_append_grows (by rfl) _ _ _ (by rfl) 95 in0 _ 18 48 Try.underlying41 hi0 hz0 hz1 hz2 (by rfl) (by omega) none 0 0 [] (by rfl) (fun _ => ⟨rfl, rfl⟩) (by rfl) (by intro b h; cases h) ⟨g, 0, none⟩ 1 1 chgCells (by rfl) (by rfl) ?_ (by decide) (by omega) (by unfold maxLen; omega) (by omega) ?_
         exact World.news_of_block (w := W.drew) HGW.out
         intro v4 w4 hown hgrow
         obtain ⟨gg, cap, rfl, hgg, hgl, hcl⟩ := row_of_own hown (by omega)
         have q0 := (hgrow.cell_far ⟨b, 5, none⟩ hbW (by simp)).trans d5
         have q1 := (hgrow.frozen_far ⟨b, 5, none⟩ hbW (by simp)).trans e5))
    all_goals (go_wp2_with fail)
    all_goals go_meet
    all_goals exact ⟨gg, cap, w4, hcl, hgg, hgl, Only.grown (Only.refl [] W).drew hgrow (by intro k h; cases h), rfl⟩
  case rest =>
    have HC := Lib.hid (told_of HV.out (by rw [HWE.out]; exact (below_a1 w _).drew) hcut)
    clear hcut
    go_wp2
    go_ret
    exact ⟨rfl, HC.out⟩
end Go.Proofs.Ytdgfdkclaagdnaa
