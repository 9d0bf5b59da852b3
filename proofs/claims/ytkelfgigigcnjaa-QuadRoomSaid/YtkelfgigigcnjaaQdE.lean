/-
  quad's root, Expand.
-/
import Derived.Test.YtkelfgigigcnjaaQdS
namespace Go.Proofs.Ytkelfgigigcnjaa
open Go.RowKit Go.Bv

/-- What a function that makes a plane hands back. -/
def pres (b : Nat) (q : List Nd × Nat × Nat) : Value := .tuple #[if q.2.2 = 0 then pval b q.2.1 else noP, errv q.2.2]

theorem Made.pokeO {w wN w1 w2 : World} {b : Nat} {s s1 : SV} {σ : List Nd} (hs : StoreAt w b s) (hb : Below w.heap.size w wN) (h : Made wN w1 b s σ s1) {K : Nat} (hK : w.heap.size ≤ K) (hK2 : K < wN.heap.size) (ho : Only [K] w1 w2) :
    Made w w2 b s σ s1 := by
  have h0 := h.behind hb
  have l1 := hs.lt
  have l2 := hs.nlt
  have l3 := hs.tlt
  have hf : ∀ k ∈ foot b s1, k ∉ [K] := by
    intro k hk hm
    simp only [foot, List.mem_cons, List.not_mem_nil, or_false] at hk hm
    subst hm
    rcases hk with e | e | e
    · omega
    · rcases h.nb with e' | e' <;> omega
    · have := h.tb; omega
  exact ⟨h0.at'.kept ho hf, h0.σ, h0.most, h0.tb, h0.nb, h0.only.through ho (by intro x hx; simp at hx; omega)⟩
theorem only_set2 (w : World) (K : Nat) (u v : Value) : Only [K] w ((w.setCell ⟨K, 0, none⟩ u).setCell ⟨K, 1, none⟩ v) :=
  ((Only.refl [K] w).setCell (by simp) _).setCell (by simp) _

theorem set3_blk {w : World} {g : Nat} {a b a' b' : Value} {t : TypeId} (h : w.heap[g]? = some (.cells #[a, b] t (0, 0))) :
    ((w.setCell ⟨g, 0, none⟩ a').setCell ⟨g, 1, none⟩ b').heap[g]? = some (.cells #[a', b'] t (0, 0)) := set2_blk h

set_option maxRecDepth 100000 in
set_option maxHeartbeats 1000000 in
theorem root_st (w : World) (b r : Nat) (s : SV) (k : K4) (h : StoreAt w b s) (ha : k.a < 4294967296) (hb : k.b < 4294967296) (hc : k.c < 4294967296) (hd : k.d < 4294967296) :
    Calls Try.prog 123 #[pval b r, kval k] w fun e w' => e = .returned (pres b (mk s.σ s.most k)) ∧ ∃ s', Made w w' b s (mk s.σ s.most k).1 s' := by
  have H := Lib.hid h
  have HS : Hid (StoreAt (((w.alloc (.cells #[.pointer (some ⟨b, 0, none⟩), .int .u32 r] 51)).alloc (.cells #[.int .u32 k.a, .int .u32 k.b, .int .u32 k.c, .int .u32 k.d] 138)).alloc (.cells #[.pointer none, .int .u32 0] 51)) b s) := h.below (below_a3 w _ _ _)
  have l1 := h.lt
  have l2 := h.nlt
  have l3 := h.tlt
  clear h
  by_cases hz : (mk s.σ s.most k).2.2 = 0
  · have HZ := Lib.hid hz
    have hres : pres b (mk s.σ s.most k) = .tuple #[pval b (mk s.σ s.most k).2.1, .nilIface] := by simp [pres, hz, errv]
    have HR := Lib.hid hres
    clear hz hres
    unfold pval kval
    go_enter Try.func123, Try.ntmps123
    go_wp2_with (first
      | (go_at_call 83; refine (make_ok _ _ _ k HS.out ha hb hc hd HZ.out).mono ?_; rintro e w1 ⟨rfl, s1, hm1⟩
         have k0 := hm1.blk (w := w) H.out (Nat.le_refl _) (blk3_0 w _ _ _)
         have k2 := hm1.blk (w := w) H.out (by omega) (blk3_2 w _ _ _)
         have p0 := cell_of_blk k0 0
         have o0 := cell_of_blk k2 0
         have o1 := cell_of_blk k2 1
         have f0 := free_of_blk k2 0
         have f1 := free_of_blk k2 1
         simp at p0 o0 o1
         have HM := Lib.hid hm1
         clear hm1 k0 k2)
      | go_in)
    refine bodyPost_ret (v := .tuple #[pval b (mk s.σ s.most k).2.1, .nilIface]) (by simp [results, Try.results123, go_sem, o0, o1, pval]) rfl ⟨by rw [HR.out], s1, ?_⟩
    exact Made.pokeO H.out (below_a3 w _ _ _) HM.out (by omega) (by simp) (only_set2 _ _ _ _)
  · have HZ := Lib.hid hz
    have hres : pres b (mk s.σ s.most k) = .tuple #[noP, .iface 67 (.int .i64 (mk s.σ s.most k).2.2)] := by simp [pres, hz, errv]
    have HR := Lib.hid hres
    clear hz hres
    unfold pval kval
    go_enter Try.func123, Try.ntmps123
    go_wp2_with (first
      | (go_at_call 83; refine (make_err _ _ _ k HS.out ha hb hc hd HZ.out).mono ?_; rintro e w1 ⟨rfl, s1, hm1⟩
         have k0 := hm1.blk (w := w) H.out (Nat.le_refl _) (blk3_0 w _ _ _)
         have k2 := hm1.blk (w := w) H.out (by omega) (blk3_2 w _ _ _)
         have p0 := cell_of_blk k0 0
         have o0 := cell_of_blk k2 0
         have o1 := cell_of_blk k2 1
         have f0 := free_of_blk k2 0
         have f1 := free_of_blk k2 1
         simp at p0 o0 o1
         have HM := Lib.hid hm1
         clear hm1 k0 k2)
      | go_in)
    refine bodyPost_ret (v := .tuple #[noP, .iface 67 (.int .i64 (mk s.σ s.most k).2.2)]) (by simp [results, Try.results123, go_sem, o0, o1, noP]) rfl ⟨by rw [HR.out], s1, ?_⟩
    exact Made.pokeO H.out (below_a3 w _ _ _) HM.out (by omega) (by simp) (only_set2 _ _ _ _)
theorem empty_ok (w : World) (b : Nat) (s : SV) (n : Nat) (h : StoreAt w b s) (hn : n ≤ 62) (hz : (emp s.σ s.most n).2.2 = 0) :
    Calls Try.prog 79 #[.pointer (some ⟨b, 0, none⟩), .int .i64 n] w fun e w' =>
      e = .returned (.tuple #[.int .u32 (emp s.σ s.most n).2.1, .nilIface]) ∧ ∃ s', Made w w' b s (emp s.σ s.most n).1 s' := by
  refine (empty_st w b s n h hn).mono ?_
  rintro e w' ⟨he, hm⟩
  refine ⟨?_, hm⟩
  rw [he, hz]; rfl
theorem empty_err (w : World) (b : Nat) (s : SV) (n : Nat) (h : StoreAt w b s) (hn : n ≤ 62) (hz : (emp s.σ s.most n).2.2 ≠ 0) :
    Calls Try.prog 79 #[.pointer (some ⟨b, 0, none⟩), .int .i64 n] w fun e w' =>
      e = .returned (.tuple #[.int .u32 0, .iface 67 (.int .i64 ((emp s.σ s.most n).2.2 : Nat))]) ∧ ∃ s', Made w w' b s (emp s.σ s.most n).1 s' := by
  refine (empty_st w b s n h hn).mono ?_
  rintro e w' ⟨he, hm⟩
  refine ⟨?_, hm⟩
  rw [he, emp_fail0 n hz]; simp [errv, hz]

set_option maxRecDepth 100000 in
set_option maxHeartbeats 1000000 in
theorem qnew_st (w : World) (b : Nat) (s : SV) (h : StoreAt w b s) :
    Calls Try.prog 35 #[.pointer (some ⟨b, 0, none⟩)] w fun e w' => e = .returned (pres b (emp s.σ s.most 3)) ∧ ∃ s', Made w w' b s (emp s.σ s.most 3).1 s' := by
  have H := Lib.hid h
  have HS : Hid (StoreAt (w.alloc (.cells #[.pointer none, .int .u32 0] 51)) b s) := h.below (below_a1 w _)
  clear h
  by_cases hz : (emp s.σ s.most 3).2.2 = 0
  · have HZ := Lib.hid hz
    have hres : pres b (emp s.σ s.most 3) = .tuple #[pval b (emp s.σ s.most 3).2.1, .nilIface] := by simp [pres, hz, errv]
    have HR := Lib.hid hres
    clear hz hres
    go_enter Try.func35, Try.ntmps35
    go_wp2_with (first
      | (go_at_call 79; refine (empty_ok _ _ _ 3 HS.out (by omega) HZ.out).mono ?_; rintro e w1 ⟨rfl, s1, hm1⟩
         have k2 := hm1.blk (w := w) H.out (Nat.le_refl _) (blk1_0 w _)
         have o0 := cell_of_blk k2 0
         have o1 := cell_of_blk k2 1
         have f0 := free_of_blk k2 0
         have f1 := free_of_blk k2 1
         simp at o0 o1
         have HM := Lib.hid hm1
         clear hm1 k2)
      | go_in)
    refine bodyPost_ret (v := .tuple #[pval b (emp s.σ s.most 3).2.1, .nilIface]) (by simp [results, Try.results35, go_sem, o0, o1, pval]) rfl ⟨by rw [HR.out], s1, ?_⟩
    exact Made.pokeO H.out (below_a1 w _) HM.out (Nat.le_refl _) (by simp) (only_set2 _ _ _ _)
  · have HZ := Lib.hid hz
    have hres : pres b (emp s.σ s.most 3) = .tuple #[noP, .iface 67 (.int .i64 (emp s.σ s.most 3).2.2)] := by simp [pres, hz, errv]
    have HR := Lib.hid hres
    clear hz hres
    go_enter Try.func35, Try.ntmps35
    go_wp2_with (first
      | (go_at_call 79; refine (empty_err _ _ _ 3 HS.out (by omega) HZ.out).mono ?_; rintro e w1 ⟨rfl, s1, hm1⟩
         have k2 := hm1.blk (w := w) H.out (Nat.le_refl _) (blk1_0 w _)
         have o0 := cell_of_blk k2 0
         have o1 := cell_of_blk k2 1
         have f0 := free_of_blk k2 0
         have f1 := free_of_blk k2 1
         simp at o0 o1
         have HM := Lib.hid hm1
         clear hm1 k2)
      | go_in)
    refine bodyPost_ret (v := .tuple #[noP, .iface 67 (.int .i64 (emp s.σ s.most 3).2.2)]) (by simp [results, Try.results35, go_sem, o0, o1, noP]) rfl ⟨by rw [HR.out], s1, ?_⟩
    exact Made.pokeO H.out (below_a1 w _) HM.out (Nat.le_refl _) (by simp) (only_set2 _ _ _ _)
end Go.Proofs.Ytkelfgigigcnjaa
