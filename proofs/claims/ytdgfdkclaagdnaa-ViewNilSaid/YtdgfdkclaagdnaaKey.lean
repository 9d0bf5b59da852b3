/-
  Map keys that are structs of two whole numbers; the key of this program: a point.
-/
import Derived.Test.YtdgfdkclaagdnaaMapAt
import Derived.Test.YtdgfdkclaagdnaaRows
import Derived.KernelRfl
namespace Go.Bv
open Go.RowKit

def PairOf (q1 q2 : IntKind) (v : Value) : Prop := ∃ a b, v = .agg #[.int q1 a, .int q2 b]
def pairEq : Value → Value → Bool
  | .agg x, .agg y => match x.toList, y.toList with
    | [.int _ a, .int _ b], [.int _ c, .int _ d] => a == c && b == d
    | _, _ => false
  | _, _ => false
@[simp] theorem pairOf_mk (q1 q2 : IntKind) (a b : Int) : PairOf q1 q2 (.agg #[.int q1 a, .int q2 b]) := ⟨a, b, rfl⟩
@[simp] theorem pairEq_mk (q1 q2 q3 q4 : IntKind) (a b c d : Int) : pairEq (.agg #[.int q1 a, .int q2 b]) (.agg #[.int q3 c, .int q4 d]) = (a == c && b == d) := rfl

theorem findAsking_pair {P : Program} {kt : TypeId} {q1 q2 : IntKind} (hE : ∀ (w : World) (a b c d : Int), (Op.equal kt (.agg #[.int q1 a, .int q2 b]) (.agg #[.int q1 c, .int q2 d])).run P w = .ok (a == c && b == d) w) (w : World) (a b : Int) :
    ∀ (es : List MapEntry) (i : Nat), (∀ e ∈ es, PairOf q1 q2 e.key) → (Instr.findAsking kt (.agg #[.int q1 a, .int q2 b]) es i).run P w = .ok (mfind pairEq (.agg #[.int q1 a, .int q2 b]) es i) w
  | [], i, _ => by simp [Instr.findAsking, mfind]
  | e :: es, i, h => by
    obtain ⟨c, d, hk⟩ := h e (by simp)
    have ih := findAsking_pair hE w a b es (i + 1) (fun e he => h e (by simp [he]))
    unfold Instr.findAsking mfind
    rw [hk]
    have hp := hE w a b c d
    rw [← pairEq_mk q1 q2 q1 q2] at hp
    simp only [Sem.run_bind, hp, Result.andThen_ok]
    split
    · simp
    · exact ih

theorem KeyEq.pair {P : Program} {kt : TypeId} {q1 q2 : IntKind} {fs : Array Field} (ht : P.underlying kt = some (.struct fs))
    (hE : ∀ (w : World) (a b c d : Int), (Op.equal kt (.agg #[.int q1 a, .int q2 b]) (.agg #[.int q1 c, .int q2 d])).run P w = .ok (a == c && b == d) w)
    (hC : ∀ (w : World) (em : Bool) (a b : Int), (Instr.checkKey em 10000 kt (.agg #[.int q1 a, .int q2 b])).run P w = .ok () w) : KeyEq P kt (PairOf q1 q2) pairEq where
  find w k es hk hes := by
    obtain ⟨a, b, rfl⟩ := hk
    simp only [Instr.findKey, Sem.run_bind, run_underlying ht, Result.andThen_ok]
    cases es with
    | nil => simp [Instr.findNow, mfind]
    | cons e es =>
      obtain ⟨c, d, hk⟩ := hes e (by simp)
      have : Instr.findNow (.struct fs) (.agg #[.int q1 a, .int q2 b]) (e :: es) 0 = none := by
        unfold Instr.findNow; rw [hk]; rfl
      rw [this]
      exact findAsking_pair hE w a b (e :: es) 0 hes
  check w em k hk := by
    obtain ⟨a, b, rfl⟩ := hk
    exact hC w em a b
  stays k k' hk hk' h := by
    obtain ⟨a, b, rfl⟩ := hk
    obtain ⟨c, d, rfl⟩ := hk'
    simp at h
    rw [h.1, h.2]
  same w k hk := by
    obtain ⟨a, b, rfl⟩ := hk
    simp [Instr.keyThatStays, Instr.sameBits]
end Go.Bv
namespace Go.Proofs.Ytdgfdkclaagdnaa
open Go.RowKit Go.Bv
theorem pt_equal (w : World) (a b c d : Int) : (Op.equal 38 (.agg #[.int .i64 a, .int .i64 b]) (.agg #[.int .i64 c, .int .i64 d])).run Try.prog w = .ok (a == c && b == d) w := by
  have hf : Try.prog.stoodInHeld 38 = false := by kernel_rfl
  simp only [Op.equal, Op.maxDepth]
  rw [run_equalIn_agg w 9999 38 _ _ (by rw [Try.underlying38]; simp [Program.fieldsOf, Try.underlying38]) hf]
  simp [go_sem, Try.underlying38, Try.underlying2, part, isAgg, run_underlying Try.underlying2]
  by_cases h1 : a = c <;> by_cases h2 : b = d <;> simp [h1, h2]
theorem pt_check (w : World) (em : Bool) (a b : Int) : (Instr.checkKey em 10000 38 (.agg #[.int .i64 a, .int .i64 b])).run Try.prog w = .ok () w := by kernel_rfl
theorem key_pt : KeyEq Try.prog 38 (PairOf .i64 .i64) pairEq := KeyEq.pair Try.underlying38 pt_equal pt_check
end Go.Proofs.Ytdgfdkclaagdnaa
