/-
  A store of a call's own: above a base all is the call's, below it nothing turns. And what the laws ask of planes.
-/
import Derived.Test.YtkelfgigigcnjaaQdR
import Derived.Test.YtkelfgigigcnjaaStZ
namespace Go.Proofs.Ytkelfgigigcnjaa
open Go.RowKit Go.Bv

/-- A store that was made since a base: it stands, nothing below the base has turned, and its blocks lie above. -/
structure Held (B : Nat) (w w' : World) (b : Nat) (s : SV) : Prop where
  at' : StoreAt w' b s
  below : Below B w w'
  sz : B ≤ w'.heap.size
  far : ∀ k ∈ foot b s, B ≤ k
theorem Held.step {B b : Nat} {w w1 w2 : World} {s s' : SV} {σ : List Nd} (h : Held B w w1 b s) (k : Made w1 w2 b s σ s') : Held B w w2 b s' where
  at' := k.at'
  below := h.below.trans (k.only.below h.sz h.far)
  sz := Nat.le_trans h.sz k.only.size
  far := by
    intro x hx
    simp only [foot, List.mem_cons, List.not_mem_nil, or_false] at hx
    rcases hx with rfl | rfl | rfl
    · exact h.far _ (by simp [foot])
    · rcases k.nb with e | e
      · rw [e]; exact h.far _ (by simp [foot])
      · exact Nat.le_trans h.sz e
    · rw [k.tb]; exact h.far _ (by simp [foot])
theorem Held.grow {B b : Nat} {w w1 w2 : World} {s : SV} (h : Held B w w1 b s) (k : Below w1.heap.size w1 w2) : Held B w w2 b s where
  at' := h.at'.below k
  below := h.below.trans (k.mono h.sz)
  sz := Nat.le_trans h.sz k.size
  far := h.far
theorem Held.only {B b K : Nat} {w w1 w2 : World} {s : SV} (h : Held B w w1 b s) (k : Only [K] w1 w2) (hK : B ≤ K) (hf : K ∉ foot b s) : Held B w w2 b s where
  at' := h.at'.kept k (by intro x hx hm; simp at hm; subst hm; exact hf hx)
  below := h.below.trans (k.below h.sz (by simpa using hK))
  sz := Nat.le_trans h.sz k.size
  far := h.far

theorem qnew_ok (w : World) (b : Nat) (s : SV) (h : StoreAt w b s) (hz : (emp s.σ s.most 3).2.2 = 0) :
    Calls Try.prog 35 #[.pointer (some ⟨b, 0, none⟩)] w fun e w' => e = .returned (.tuple #[.agg #[.pointer (some ⟨b, 0, none⟩), .int .u32 (emp s.σ s.most 3).2.1], .nilIface]) ∧ ∃ s', Made w w' b s (emp s.σ s.most 3).1 s' := by
  refine (qnew_st w b s h).mono ?_
  rintro e w' ⟨he, hm⟩
  refine ⟨?_, hm⟩
  rw [he]; simp [pres, hz, errv, pval]
theorem qnew_err (w : World) (b : Nat) (s : SV) (h : StoreAt w b s) (hz : (emp s.σ s.most 3).2.2 ≠ 0) :
    Calls Try.prog 35 #[.pointer (some ⟨b, 0, none⟩)] w fun e w' => e = .returned (.tuple #[.agg #[.pointer none, .int .u32 0], .iface 67 (.int .i64 (emp s.σ s.most 3).2.2)]) ∧ ∃ s', Made w w' b s (emp s.σ s.most 3).1 s' := by
  refine (qnew_st w b s h).mono ?_
  rintro e w' ⟨he, hm⟩
  refine ⟨?_, hm⟩
  rw [he]; simp [pres, hz, errv, noP]
theorem qset_ok (w : World) (b r : Nat) (s : SV) (px py : Int) (alive : Bool) (h : StoreAt w b s) (S : Sm s.σ) (h3 : 3 ≤ lev s.σ r) (hq : right px py = true) (hz : (setP s.σ s.most r px py alive).2.2 = 0) :
    Calls Try.prog 37 #[.agg #[.pointer (some ⟨b, 0, none⟩), .int .u32 r], .agg #[.int .i64 px, .int .i64 py], .bool alive] w fun e w' =>
      e = .returned (.tuple #[.agg #[.pointer (some ⟨b, 0, none⟩), .int .u32 (setP s.σ s.most r px py alive).2.1], .nilIface]) ∧ ∃ s', Made w w' b s (setP s.σ s.most r px py alive).1 s' := by
  refine (qset_st w b r s px py alive h S h3 hq).mono ?_
  rintro e w' ⟨he, hm⟩
  refine ⟨?_, hm⟩
  rw [he]; simp [pres, hz, errv, pval]
theorem qset_err (w : World) (b r : Nat) (s : SV) (px py : Int) (alive : Bool) (h : StoreAt w b s) (S : Sm s.σ) (h3 : 3 ≤ lev s.σ r) (hq : right px py = true) (hz : (setP s.σ s.most r px py alive).2.2 ≠ 0) :
    Calls Try.prog 37 #[.agg #[.pointer (some ⟨b, 0, none⟩), .int .u32 r], .agg #[.int .i64 px, .int .i64 py], .bool alive] w fun e w' =>
      e = .returned (.tuple #[.agg #[.pointer none, .int .u32 0], .iface 67 (.int .i64 (setP s.σ s.most r px py alive).2.2)]) ∧ ∃ s', Made w w' b s (setP s.σ s.most r px py alive).1 s' := by
  refine (qset_st w b r s px py alive h S h3 hq).mono ?_
  rintro e w' ⟨he, hm⟩
  refine ⟨?_, hm⟩
  rw [he]; simp [pres, hz, errv, noP]
theorem get_at (w : World) (b r : Nat) (s : SV) (px py : Int) (v : Bool) (h : StoreAt w b s) (hl1 : 1 ≤ lev s.σ r) (hv : get s.σ r px py = v) :
    Calls Try.prog 33 #[.agg #[.pointer (some ⟨b, 0, none⟩), .int .u32 r], .agg #[.int .i64 px, .int .i64 py]] w fun e w' => e = .returned (.bool v) ∧ Below w.heap.size w w' := by
  subst hv
  exact get_st w b r s px py h (lt_of_lev (by omega)) hl1
theorem level_at (w : World) (b r : Nat) (s : SV) (l : Int) (h : StoreAt w b s) (hr : r < s.σ.length) (hl : lev s.σ r = l) :
    Calls Try.prog 31 #[.pointer (some ⟨b, 0, none⟩), .int .u32 r] w fun e w' => e = .returned (.int .i64 l) ∧ w = w' := by
  subst hl
  exact level_st w b s r h (by have := h.len.2; omega)
theorem count_at (w : World) (b r : Nat) (s : SV) (c : Nat) (h : StoreAt w b s) (hr : r < s.σ.length) (hc : cnt s.σ r = c) :
    Calls Try.prog 32 #[.pointer (some ⟨b, 0, none⟩), .int .u32 r] w fun e w' => e = .returned (.int .u64 c) ∧ w = w' := by
  subst hc
  exact count_st w b s r h (by have := h.len.2; omega)
end Go.Proofs.Ytkelfgigigcnjaa
