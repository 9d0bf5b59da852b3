/-
  view's functions at what the law's example asks.
-/
import Derived.Test.YtdgfdkclaagdnaaKey
import Derived.Test.YtdgfdkclaagdnaaErr
import Derived.Deep.RegionHeld3
import Derived.Deep.RegionLaw
import Derived.Deep.DeepCutAuto
import Derived.Deep.AppendLies
import Derived.Laws.OwnMore
import Derived.OwnWalk
namespace Go.Proofs.Ytdgfdkclaagdnaa
open Go.RowKit Go.Bv

def bits0 : Value := .agg #[.int .u16 0, .int .u16 0, .int .u16 0, .int .u16 0, .int .u16 0, .int .u16 0, .int .u16 0, .int .u16 0, .int .u16 0, .int .u16 0, .int .u16 0, .int .u16 0, .int .u16 0, .int .u16 0, .int .u16 0, .int .u16 0]
def bits1 : Value := .agg #[.int .u16 1, .int .u16 0, .int .u16 0, .int .u16 0, .int .u16 0, .int .u16 0, .int .u16 0, .int .u16 0, .int .u16 0, .int .u16 0, .int .u16 0, .int .u16 0, .int .u16 0, .int .u16 0, .int .u16 0, .int .u16 0]

set_option maxRecDepth 100000 in
theorem new_vw (w : World) :
    Calls Try.prog 45 #[] w fun e w' => e = .returned (.pointer (some ⟨w.heap.size + 1, 0, none⟩)) ∧
      (w.alloc (.map #[] 0)).alloc (.cells #[.int .i64 0, .int .u64 0, .int .u64 0, .int .i64 0, .map (some w.heap.size), .slice none 0 0, .bool false] 100) = w' := by
  have hmm := @run_makeMap Try.prog
  go_enter Try.func45, Try.ntmps45
  go_wp2
  go_ret
  exact ⟨rfl, rfl⟩

theorem bits_00 (w : World) : (binOp .eql 55 bits0 bits0).run Try.prog w = .ok (.bool true) w := by kernel_rfl
theorem bits_10 (w : World) : (binOp .eql 55 bits1 bits0).run Try.prog w = .ok (.bool false) w := by kernel_rfl
theorem bits_11 (w : World) : (binOp .eql 55 bits1 bits1).run Try.prog w = .ok (.bool true) w := by kernel_rfl

set_option maxRecDepth 100000 in
theorem dark_0 (w : World) : Calls Try.prog 46 #[bits0] w fun e w' => e = .returned (.bool true) ∧ Below w.heap.size w w' := by
  have h := bits_00
  unfold bits0 at h ⊢
  go_enter Try.func46, Try.ntmps46
  go_wp2
  go_ret
  exact ⟨rfl, (Below.refl _ _).alloc (Nat.le_refl _) _⟩
set_option maxRecDepth 100000 in
theorem dark_1 (w : World) : Calls Try.prog 46 #[bits1] w fun e w' => e = .returned (.bool false) ∧ Below w.heap.size w w' := by
  have h := bits_10
  unfold bits1 bits0 at h
  unfold bits1
  go_enter Try.func46, Try.ntmps46
  go_wp2
  go_ret
  exact ⟨rfl, (Below.refl _ _).alloc (Nat.le_refl _) _⟩

end Go.Proofs.Ytdgfdkclaagdnaa
