/-
  quad's Expand.
-/
import Derived.Test.YtkelfgigigcnjaaQdL
import Derived.Test.YtkelfgigigcnjaaQdE
namespace Go.Proofs.Ytkelfgigigcnjaa
open Go.RowKit Go.Bv

theorem Made.far {wN w1 : World} {b : Nat} {s s1 : SV} {σ : List Nd} (h : Made wN w1 b s σ s1) {K : Nat} (hk : K ∉ foot b s) (hlt : K < wN.heap.size) : K ∉ foot b s1 := by
  simp only [foot, List.mem_cons, List.not_mem_nil, or_false, not_or] at hk ⊢
  refine ⟨hk.1, ?_, by rw [h.tb]; exact hk.2.2⟩
  rcases h.nb with e | e
  · rw [e]; exact hk.2.1
  · omega
theorem Made.blk' {wN w1 : World} {b : Nat} {s s1 : SV} {σ : List Nd} (h : Made wN w1 b s σ s1) {K : Nat} (hk : K ∉ foot b s) {o : Obj} (hb : wN.heap[K]? = some o) : w1.heap[K]? = some o := by
  rw [h.only.block K (Array.getElem?_eq_some_iff.1 hb).1 hk]; exact hb
theorem Made.only' {w w1 w2 : World} {b : Nat} {s s1 : SV} {σ : List Nd} (h : Made w w1 b s σ s1) {K : Nat} (ho : Only [K] w1 w2) (hK : w.heap.size ≤ K) (hf : K ∉ foot b s1) : Made w w2 b s σ s1 :=
  ⟨h.at'.kept ho (by intro k hk hm; simp at hm; subst hm; exact hf hk), h.σ, h.most, h.tb, h.nb, h.only.through ho (by intro x hx; simp at hx; omega)⟩
theorem foot_lt {w : World} {b : Nat} {s : SV} (h : StoreAt w b s) {K : Nat} (hK : w.heap.size ≤ K) : K ∉ foot b s := by
  have l1 := h.lt
  have l2 := h.nlt
  have l3 := h.tlt
  simp only [foot, List.mem_cons, List.not_mem_nil, or_false]
  omega
theorem make4_ok (w : World) (b : Nat) (s : SV) (k1 k2 k3 k4 : Nat) (h : StoreAt w b s) (ha : k1 < 4294967296) (hb : k2 < 4294967296) (hc : k3 < 4294967296) (hd : k4 < 4294967296) (hz : (mk s.σ s.most ⟨k1, k2, k3, k4⟩).2.2 = 0) :
    Calls Try.prog 83 #[.pointer (some ⟨b, 0, none⟩), .agg #[.int .u32 k1, .int .u32 k2, .int .u32 k3, .int .u32 k4]] w fun e w' =>
      e = .returned (.tuple #[.int .u32 (mk s.σ s.most ⟨k1, k2, k3, k4⟩).2.1, .nilIface]) ∧ ∃ s', Made w w' b s (mk s.σ s.most ⟨k1, k2, k3, k4⟩).1 s' := make_ok w b s ⟨k1, k2, k3, k4⟩ h ha hb hc hd hz
theorem make4_err (w : World) (b : Nat) (s : SV) (k1 k2 k3 k4 : Nat) (h : StoreAt w b s) (ha : k1 < 4294967296) (hb : k2 < 4294967296) (hc : k3 < 4294967296) (hd : k4 < 4294967296) (hz : (mk s.σ s.most ⟨k1, k2, k3, k4⟩).2.2 ≠ 0) :
    Calls Try.prog 83 #[.pointer (some ⟨b, 0, none⟩), .agg #[.int .u32 k1, .int .u32 k2, .int .u32 k3, .int .u32 k4]] w fun e w' =>
      e = .returned (.tuple #[.int .u32 0, .iface 67 (.int .i64 ((mk s.σ s.most ⟨k1, k2, k3, k4⟩).2.2 : Nat))]) ∧ ∃ s', Made w w' b s (mk s.σ s.most ⟨k1, k2, k3, k4⟩).1 s' := make_err w b s ⟨k1, k2, k3, k4⟩ h ha hb hc hd hz

set_option maxRecDepth 100000 in
set_option maxHeartbeats 1000000 in
theorem expand_bad (w : World) (b r : Nat) (s : SV) (h : StoreAt w b s) (hr : r < s.σ.length) (hl : 62 ≤ lev s.σ r) :
    Calls Try.prog 99 #[pval b r] w fun e w' => e = .returned (pres b (expand s.σ s.most r)) ∧ ∃ s', Made w w' b s (expand s.σ s.most r).1 s' := by
  have hr4 : r < 4294967296 := by have := h.len.2; omega
  have H := Lib.hid h
  have HS : Hid (StoreAt ((w.alloc (.cells #[.pointer (some ⟨b, 0, none⟩), .int .u32 r] 51)).alloc (.cells #[.pointer none, .int .u32 0] 51)) b s) := h.below (below_a2 w _ _)
  have hres : expand s.σ s.most r = (s.σ, 0, 1) := by unfold expand; rw [if_pos (.inr hl)]
  have HR := Lib.hid hres
  have hd : 1 ≤ lev s.σ r := by omega
  clear h hres
  unfold pval
  go_enter Try.func99, Try.ntmps99
  go_wp2_with (
       go_at_call 81; refine (of_yes _ _ _ _ HS.out hr4 hd).mono ?_; rintro e w3 ⟨rfl, hb3⟩
       have k0 := kept hb3 (blk2_0 w _ _)
       have k1 := kept hb3 (blk2_1 w _ _)
       have p0 := cell_of_blk k0 0
       have p1 := cell_of_blk k0 1
       simp at p0 p1
       have l0 : w.heap.size < w3.heap.size := (Array.getElem?_eq_some_iff.1 k0).1
       have pz0 : ∀ o, (w3.alloc o).cell? ⟨w.heap.size, 0, none⟩ = some (.pointer (some ⟨b, 0, none⟩)) := fun o => (by rw [World.cell?_alloc_old _ _ _ (by simp; omega)]; exact p0)
       have pz1 : ∀ o, (w3.alloc o).cell? ⟨w.heap.size, 1, none⟩ = some (.int .u32 r) := fun o => (by rw [World.cell?_alloc_old _ _ _ (by simp; omega)]; exact p1)
       have HP := Lib.hid k0
       have HO := Lib.hid k1
       have HB3 := Lib.hid hb3
       clear hb3 k0 k1)
  obtain ⟨W, hWe⟩ : ∃ W, W = w3.alloc (.cells #[.int .u32 (kidsOf s.σ r).a, .int .u32 (kidsOf s.σ r).b, .int .u32 (kidsOf s.σ r).c, .int .u32 (kidsOf s.σ r).d] 138) := ⟨_, rfl⟩
  rw [← hWe]
  have h3W : Below w3.heap.size w3 W := by rw [hWe]; exact below_a1 _ _
  have hwW : Below w.heap.size w W := below_then (below_then (below_a2 w _ _) HB3.out) h3W
  have hK : W.heap[w3.heap.size]? = some (.cells #[.int .u32 (kidsOf s.σ r).a, .int .u32 (kidsOf s.σ r).b, .int .u32 (kidsOf s.σ r).c, .int .u32 (kidsOf s.σ r).d] 138 (0, 0)) := by rw [hWe]; exact blk1_0 _ _
  have hO := kept h3W HO.out
  have o0 := cell_of_blk hO 0
  have o1 := cell_of_blk hO 1
  have f0 := free_of_blk hO 0
  have f1 := free_of_blk hO 1
  simp at o0 o1
  have HW := Lib.hid hwW
  have HSW : Hid (StoreAt W b s) := H.out.below hwW
  clear hWe h3W hwW hK hO p0 p1 pz0 pz1
  go_wp2_with (first
    | (go_at_call 31; refine (level_st _ _ _ _ HSW.out hr4).mono ?_; rintro e w4 ⟨rfl, rfl⟩)
    | go_in)
  refine bodyPost_ret (v := .tuple #[noP, .iface 67 (.int .i64 1)]) (by simp [results, Try.results99, go_sem, o0, o1, noP]) rfl ⟨by rw [HR.out]; simp [pres, errv], s, ?_⟩
  rw [HR.out]
  exact (Made.of_below H.out HW.out).only' (only_set2 _ _ _ _) (by omega) (foot_lt H.out (by omega))

theorem exS_bd {σ : List Nd} {most o : Nat} {k : K4} (W : Wf σ) : ∀ j, Wf (exS σ most o k j).1 ∧ (exS σ most o k j).2.1.a < (exS σ most o k j).1.length ∧ (exS σ most o k j).2.1.b < (exS σ most o k j).1.length ∧ (exS σ most o k j).2.1.c < (exS σ most o k j).1.length ∧ (exS σ most o k j).2.1.d < (exS σ most o k j).1.length
  | 0 => by have := W.two; simp only [exS]; refine ⟨W, ?_⟩; omega
  | j + 1 => by
    have ih := exS_bd (most := most) (o := o) (k := k) W j
    rw [exS]
    generalize exS σ most o k j = q at ih ⊢
    split
    · have hl := mk_lt q.1 most (withK ⟨o, o, o, o⟩ (3 - j) (kth k j)) ih.1
      have he := (mk_ext q.1 most (withK ⟨o, o, o, o⟩ (3 - j) (kth k j))).len
      refine ⟨Wf_mk ih.1 _ _, ?_⟩
      generalize mk q.1 most (withK ⟨o, o, o, o⟩ (3 - j) (kth k j)) = v at hl he ⊢
      obtain ⟨_, h1, h2, h3, h4⟩ := ih
      simp only
      unfold withK
      split <;> simp only <;> omega
    · exact ih
theorem root_ok (w : World) (b r : Nat) (s : SV) (k : K4) (h : StoreAt w b s) (ha : k.a < 4294967296) (hb : k.b < 4294967296) (hc : k.c < 4294967296) (hd : k.d < 4294967296) (hz : (mk s.σ s.most k).2.2 = 0) :
    Calls Try.prog 123 #[.agg #[.pointer (some ⟨b, 0, none⟩), .int .u32 r], .agg #[.int .u32 k.a, .int .u32 k.b, .int .u32 k.c, .int .u32 k.d]] w fun e w' =>
      e = .returned (.tuple #[.agg #[.pointer (some ⟨b, 0, none⟩), .int .u32 (mk s.σ s.most k).2.1], .nilIface]) ∧ ∃ s', Made w w' b s (mk s.σ s.most k).1 s' := by
  refine (root_st w b r s k h ha hb hc hd).mono ?_
  rintro e w' ⟨he, hm⟩
  refine ⟨?_, hm⟩
  rw [he]; simp [pres, hz, errv, pval]
theorem root_err (w : World) (b r : Nat) (s : SV) (k : K4) (h : StoreAt w b s) (ha : k.a < 4294967296) (hb : k.b < 4294967296) (hc : k.c < 4294967296) (hd : k.d < 4294967296) (hz : (mk s.σ s.most k).2.2 ≠ 0) :
    Calls Try.prog 123 #[.agg #[.pointer (some ⟨b, 0, none⟩), .int .u32 r], .agg #[.int .u32 k.a, .int .u32 k.b, .int .u32 k.c, .int .u32 k.d]] w fun e w' =>
      e = .returned (.tuple #[.agg #[.pointer none, .int .u32 0], .iface 67 (.int .i64 (mk s.σ s.most k).2.2)]) ∧ ∃ s', Made w w' b s (mk s.σ s.most k).1 s' := by
  refine (root_st w b r s k h ha hb hc hd).mono ?_
  rintro e w' ⟨he, hm⟩
  refine ⟨?_, hm⟩
  rw [he]; simp [pres, hz, errv, noP]

/-- Behind the empty square. -/
def ExMid (W : World) (b : Nat) (s : SV) (q : List Nd × Nat × Nat) (u6 u7 : Value) (wc : World) : Prop :=
  ∃ s1, Made W.drew wc b s q.1 s1 ∧ u6 = .int .u32 q.2.1 ∧ u7 = errv q.2.2

/-- Where the loop over the four stands. -/
def ExRel (w : World) (b r : Nat) (s : SV) (K X : Nat) (kk : K4) (E : Nat → List Nd × K4 × Nat) (g : Nat) (i : Value) (wr : World) : Prop :=
  ∃ (j : Nat) (s' : SV), j + g = 4 ∧ i = .int .i64 (j : Nat) ∧ (E j).2.2 = 0 ∧ Made w wr b s (E j).1 s' ∧
    wr.heap[w.heap.size]? = some (.cells #[.pointer (some ⟨b, 0, none⟩), .int .u32 r] 51 (0, 0)) ∧ wr.heap[w.heap.size + 1]? = some (.cells #[.pointer none, .int .u32 0] 51 (0, 0)) ∧
    wr.heap[K]? = some (.cells #[.int .u32 kk.a, .int .u32 kk.b, .int .u32 kk.c, .int .u32 kk.d] 138 (0, 0)) ∧
    wr.heap[X]? = some (.cells #[.int .u32 (E j).2.1.a, .int .u32 (E j).2.1.b, .int .u32 (E j).2.1.c, .int .u32 (E j).2.1.d] 138 (0, 0)) ∧
    w.heap.size ∉ foot b s' ∧ w.heap.size + 1 ∉ foot b s' ∧ K ∉ foot b s' ∧ X ∉ foot b s'

theorem ExRel.step {w wr w6 : World} {b r j : Nat} {s s' s6 : SV} {K X : Nat} {kk m : K4} {E : Nat → List Nd × K4 × Nat} {most : Nat} {A : Obj} (hj : j < 4) (hm : Made w wr b s (E j).1 s')
    (hP : wr.heap[w.heap.size]? = some (.cells #[.pointer (some ⟨b, 0, none⟩), .int .u32 r] 51 (0, 0))) (hO : wr.heap[w.heap.size + 1]? = some (.cells #[.pointer none, .int .u32 0] 51 (0, 0)))
    (hK : wr.heap[K]? = some (.cells #[.int .u32 kk.a, .int .u32 kk.b, .int .u32 kk.c, .int .u32 kk.d] 138 (0, 0)))
    (hX : wr.heap[X]? = some (.cells #[.int .u32 (E j).2.1.a, .int .u32 (E j).2.1.b, .int .u32 (E j).2.1.c, .int .u32 (E j).2.1.d] 138 (0, 0)))
    (g1 : w.heap.size ∉ foot b s') (g2 : w.heap.size + 1 ∉ foot b s') (g3 : K ∉ foot b s') (g4 : X ∉ foot b s') (hwX : w.heap.size + 1 < X) (hKX : K < X)
    (hm6 : Made (wr.alloc A) w6 b s' (mk (E j).1 most m).1 s6) (hz : (mk (E j).1 most m).2.2 = 0) (hn : E (j + 1) = ((mk (E j).1 most m).1, withK (E j).2.1 j (mk (E j).1 most m).2.1, (mk (E j).1 most m).2.2)) :
    ExRel w b r s K X kk E (3 - j) (.int .i64 (j + 1 : Nat)) (w6.setCell ⟨X, j, none⟩ (.int .u32 (mk (E j).1 most m).2.1)) := by
  have old : ∀ {k : Nat} {o : Obj}, wr.heap[k]? = some o → (wr.alloc A).heap[k]? = some o := fun {k o} h => by
    rw [heap_alloc_old _ _ (Array.getElem?_eq_some_iff.1 h).1]; exact h
  have lt : ∀ {k : Nat} {o : Obj}, wr.heap[k]? = some o → k < (wr.alloc A).heap.size := fun {k o} h => by
    have := (Array.getElem?_eq_some_iff.1 h).1; simp; omega
  have e1 := hm6.far g1 (lt hP)
  have e2 := hm6.far g2 (lt hO)
  have e3 := hm6.far g3 (lt hK)
  have e4 := hm6.far g4 (lt hX)
  have hX6 := hm6.blk' g4 (old hX)
  refine ⟨j + 1, s6, by omega, rfl, by rw [hn]; exact hz, ?_, ?_, ?_, ?_, ?_, e1, e2, e3, e4⟩
  · rw [hn]
    exact ((hm.below (below_a1 _ _)).trans hm6).only' ((Only.refl [X] w6).setCell (by simp) _) (by omega) e4
  · rw [heap_setCell_other _ _ _ _ (by simp; omega)]; exact hm6.blk' g1 (old hP)
  · rw [heap_setCell_other _ _ _ _ (by simp; omega)]; exact hm6.blk' g2 (old hO)
  · rw [heap_setCell_other _ _ _ _ (by simp; omega)]; exact hm6.blk' g3 (old hK)
  · rw [heap_setCell_same _ _ _ _ _ _ hX6, hn]
    obtain rfl | rfl | rfl | rfl : j = 0 ∨ j = 1 ∨ j = 2 ∨ j = 3 := by omega
    all_goals rfl

set_option maxRecDepth 100000 in
set_option maxHeartbeats 40000000 in
theorem expand_good (w : World) (b r n : Nat) (s : SV) (h : StoreAt w b s) (hl : lev s.σ r = (n + 1 : Nat)) (hn : n + 1 < 62) :
    Calls Try.prog 99 #[pval b r] w fun e w' => e = .returned (pres b (expand s.σ s.most r)) ∧ ∃ s', Made w w' b s (expand s.σ s.most r).1 s' := by
  have hr : r < s.σ.length := lt_of_lev (by omega)
  have hr4 : r < 4294967296 := by have := h.len.2; omega
  have H := Lib.hid h
  have HS : Hid (StoreAt ((w.alloc (.cells #[.pointer (some ⟨b, 0, none⟩), .int .u32 r] 51)).alloc (.cells #[.pointer none, .int .u32 0] 51)) b s) := h.below (below_a2 w _ _)
  have hd : 1 ≤ lev s.σ r := by omega
  have hw1 : IntKind.i64.wrap (((n + 1 : Nat) : Int) - 1) = n := by rw [IntWalk.i64_in _ (by omega)]; omega
  have hw2 : wrap64 (n : Int) = n := IntWalk.wrap64_in _ (by omega)
  have hw3 : IntKind.i64.wrap (n : Int) = n := IntWalk.i64_in _ (by omega)
  have hw4 : IntKind.i64.wrap ((n : Int) + 1 - 1) = n := by rw [IntWalk.i64_in _ (by omega)]; omega
  clear h
  unfold pval
  go_enter Try.func99, Try.ntmps99
  go_wp2_with (
       go_at_call 81; refine (of_yes _ _ _ _ HS.out hr4 hd).mono ?_; rintro e w3 ⟨rfl, hb3⟩
       have k0 := kept hb3 (blk2_0 w _ _)
       have k1 := kept hb3 (blk2_1 w _ _)
       have p0 := cell_of_blk k0 0
       have p1 := cell_of_blk k0 1
       simp at p0 p1
       have l0 : w.heap.size < w3.heap.size := (Array.getElem?_eq_some_iff.1 k0).1
       have pz0 : ∀ o, (w3.alloc o).cell? ⟨w.heap.size, 0, none⟩ = some (.pointer (some ⟨b, 0, none⟩)) := fun o => (by rw [World.cell?_alloc_old _ _ _ (by simp; omega)]; exact p0)
       have pz1 : ∀ o, (w3.alloc o).cell? ⟨w.heap.size, 1, none⟩ = some (.int .u32 r) := fun o => (by rw [World.cell?_alloc_old _ _ _ (by simp; omega)]; exact p1)
       have HP := Lib.hid k0
       have HO := Lib.hid k1
       have HB3 := Lib.hid hb3
       clear hb3 k0 k1)
  obtain ⟨W, hWe⟩ : ∃ W, W = w3.alloc (.cells #[.int .u32 (kidsOf s.σ r).a, .int .u32 (kidsOf s.σ r).b, .int .u32 (kidsOf s.σ r).c, .int .u32 (kidsOf s.σ r).d] 138) := ⟨_, rfl⟩
  rw [← hWe]
  have h3W : Below w3.heap.size w3 W := by rw [hWe]; exact below_a1 _ _
  have hwW : Below w.heap.size w W := below_then (below_then (below_a2 w _ _) HB3.out) h3W
  have hK : W.heap[w3.heap.size]? = some (.cells #[.int .u32 (kidsOf s.σ r).a, .int .u32 (kidsOf s.σ r).b, .int .u32 (kidsOf s.σ r).c, .int .u32 (kidsOf s.σ r).d] 138 (0, 0)) := by rw [hWe]; exact blk1_0 _ _
  have hP := kept h3W HP.out
  have hO := kept h3W HO.out
  have q0 := cell_of_blk hP 0
  have q1 := cell_of_blk hP 1
  simp at q0 q1
  have HWP := Lib.hid hP
  have HWO := Lib.hid hO
  have HK := Lib.hid hK
  have HW := Lib.hid hwW
  have HSW : Hid (StoreAt W b s) := H.out.below hwW
  clear hWe h3W hwW hK hO hP p0 p1 pz0 pz1
  go_wp2_with (go_at_call 31; refine (level_st _ _ _ _ HSW.out hr4).mono ?_; rintro e w4 ⟨rfl, rfl⟩; rw [hl])
  go_cut [6, 7] (fun u6 u7 wc => ExMid W b s (emp s.σ s.most n) u6 u7 wc)
  case first =>
    go_region_law (first
      | (go_simp; go_at_call 31; refine (level_st _ _ _ _ (HSW.out.below ((Below.refl _ _).drew)) hr4).mono ?_; rintro e w4 ⟨rfl, rfl⟩; rw [hl])
      | (go_simp; go_at_call 79; refine (empty_st _ _ _ n (HSW.out.below ((Below.refl _ _).drew)) (by omega)).mono ?_; rintro e w5 ⟨rfl, s5, hm5⟩; have HM5 := Lib.hid hm5; clear hm5))
    all_goals (go_wp2_with fail)
    all_goals go_meet
    all_goals exact ⟨s5, HM5.out, rfl, rfl⟩
  case rest =>
    obtain ⟨s1, hm1, rfl, rfl⟩ := hcut
    have nP : w.heap.size ∉ foot b s := foot_lt H.out (Nat.le_refl _)
    have nO : w.heap.size + 1 ∉ foot b s := foot_lt H.out (by omega)
    have nK : w3.heap.size ∉ foot b s := foot_lt H.out (by omega)
    have ltP : w.heap.size < W.heap.size := (Array.getElem?_eq_some_iff.1 HWP.out).1
    have ltO : w.heap.size + 1 < W.heap.size := (Array.getElem?_eq_some_iff.1 HWO.out).1
    have ltK : w3.heap.size < W.heap.size := (Array.getElem?_eq_some_iff.1 HK.out).1
    have hP := hm1.blk' nP HWP.out
    have hO := hm1.blk' nO HWO.out
    have hK := hm1.blk' nK HK.out
    have hwc : W.heap.size ≤ wc.heap.size := hm1.only.size
    have gP := hm1.far nP ltP
    have gO := hm1.far nO ltO
    have gK := hm1.far nK ltK
    have hmw : Made w wc b s (emp s.σ s.most n).1 s1 := hm1.behind HW.out.drew
    have hexp : expand s.σ s.most r = bnd (emp s.σ s.most n) fun σ0 o => if (exS σ0 s.most o (kidsOf s.σ r) 4).2.2 = 0 then mk (exS σ0 s.most o (kidsOf s.σ r) 4).1 s.most (exS σ0 s.most o (kidsOf s.σ r) 4).2.1
        else ((exS σ0 s.most o (kidsOf s.σ r) 4).1, 0, (exS σ0 s.most o (kidsOf s.σ r) 4).2.2) := by
      unfold expand
      rw [if_neg (by omega), show (lev s.σ r - 1).toNat = n by omega]
    have hqw := emp_lt H.out.wf s.most n
    generalize emp s.σ s.most n = q at hm1 hmw hexp hqw ⊢
    clear q0 q1
    by_cases hz : q.2.2 = 0
    · have he : errv q.2.2 = .nilIface := by simp [errv, hz]
      rw [he]
      have hfin : expand s.σ s.most r = if (exS q.1 s.most q.2.1 (kidsOf s.σ r) 4).2.2 = 0 then mk (exS q.1 s.most q.2.1 (kidsOf s.σ r) 4).1 s.most (exS q.1 s.most q.2.1 (kidsOf s.σ r) 4).2.1
        else ((exS q.1 s.most q.2.1 (kidsOf s.σ r) 4).1, 0, (exS q.1 s.most q.2.1 (kidsOf s.σ r) 4).2.2) := by rw [hexp]; simp only [bnd]; rw [if_pos hz]
      obtain ⟨E, hEe⟩ : ∃ E, E = exS q.1 s.most q.2.1 (kidsOf s.σ r) := ⟨_, rfl⟩
      have hstep : ∀ j, (E j).2.2 = 0 → E (j + 1) = ((mk (E j).1 s.most (withK ⟨q.2.1, q.2.1, q.2.1, q.2.1⟩ (3 - j) (kth (kidsOf s.σ r) j))).1, withK (E j).2.1 j (mk (E j).1 s.most (withK ⟨q.2.1, q.2.1, q.2.1, q.2.1⟩ (3 - j) (kth (kidsOf s.σ r) j))).2.1, (mk (E j).1 s.most (withK ⟨q.2.1, q.2.1, q.2.1, q.2.1⟩ (3 - j) (kth (kidsOf s.σ r) j))).2.2) := by
        intro j h0; rw [hEe] at h0 ⊢; rw [exS, if_pos h0]
      have hstop : ∀ j, j ≤ 4 → (E j).2.2 ≠ 0 → E 4 = E j := by
        intro j hj h0; rw [hEe] at h0 ⊢; exact exS_fail h0 4 hj
      have hE0 : (E 0).1 = q.1 ∧ (E 0).2.1 = ⟨0, 0, 0, 0⟩ ∧ (E 0).2.2 = 0 := by rw [hEe]; exact ⟨rfl, rfl, rfl⟩
      rw [← hEe] at hfin
      have hbd : ∀ j, (E j).2.1.a < (E j).1.length ∧ (E j).2.1.b < (E j).1.length ∧ (E j).2.1.c < (E j).1.length ∧ (E j).2.1.d < (E j).1.length := fun j => by rw [hEe]; exact (exS_bd (by rw [← hm1.σ]; exact hm1.at'.wf) j).2
      have HBD := Lib.hid hbd
      have HStep := Lib.hid hstep
      have HStop := Lib.hid hstop
      have HE0 := Lib.hid hE0
      clear hEe hstep hstop hE0 hbd
      have HFin := Lib.hid hfin
      have ho4 : q.2.1 < 4294967296 := by rw [← hm1.σ] at hqw; have := hm1.at'.len.2; omega
      obtain ⟨b0, b1, b2, b3⟩ := kid_bd H.out.wf H.out.len.2 hl
      have HMW := Lib.hid hmw
      have HP := Lib.hid hP
      have HO := Lib.hid hO
      have HK2 := Lib.hid hK
      have HG := Lib.hid (And.intro gP (And.intro gO gK))
      have gX : wc.heap.size ∉ foot b s1 := foot_lt hm1.at' (Nat.le_refl _)
      have HGX := Lib.hid gX
      have HLT := Lib.hid (And.intro ltP (And.intro ltO (And.intro ltK hwc)))
      clear hm1 hmw hexp hqw hz he hfin hP hO hK gP gO gK gX ltP ltO ltK hwc nP nO nK hw1 hw2 hw3 hw4 l0
      go_wp2
      go_loopg [49] 4 (fun g i wr => ExRel w b r s w3.heap.size wc.heap.size (kidsOf s.σ r) E g i wr)
      case atStart =>
        obtain ⟨a1, a2, a3, a4⟩ := HLT.out
        refine ⟨0, s1, rfl, rfl, HE0.out.2.2, by rw [HE0.out.1]; exact HMW.out.below (below_a1 _ _), ?_, ?_, ?_, by rw [HE0.out.2.1]; exact blk1_0 _ _, HG.out.1, HG.out.2.1, HG.out.2.2, HGX.out⟩
        · rw [heap_alloc_old _ _ (by omega)]; exact HP.out
        · rw [heap_alloc_old _ _ (by omega)]; exact HO.out
        · rw [heap_alloc_old _ _ (by omega)]; exact HK2.out
      case round =>
        obtain ⟨j, s', hjg, rfl, hE, hm, hP, hO, hK, hX, g1, g2, g3, g4⟩ := hrel
        obtain ⟨a1, a2, a3, a4⟩ := HLT.out
        have HB := Lib.hid (show w.heap.size + 1 < wc.heap.size ∧ w3.heap.size < wc.heap.size by omega)
        clear a1 a2 a3 a4
        have HHP := Lib.hid hP
        have HHO := Lib.hid hO
        have HHK := Lib.hid hK
        have HHX := Lib.hid hX
        have HM := Lib.hid hm
        have HE := Lib.hid hE
        have hHG := Lib.hid (And.intro g1 (And.intro g2 (And.intro g3 g4)))
        have p0 := cell_of_blk hP 0
        have p1 := cell_of_blk hP 1
        have ltP : w.heap.size < wr.heap.size := (Array.getElem?_eq_some_iff.1 hP).1
        have ltK : w3.heap.size < wr.heap.size := (Array.getElem?_eq_some_iff.1 hK).1
        have ltX : wc.heap.size < wr.heap.size := (Array.getElem?_eq_some_iff.1 hX).1
        have hnx := hm.σ
        have hmx := hm.most
        simp at p0 p1
        have pz0 : ∀ o, (wr.alloc o).cell? ⟨w.heap.size, 0, none⟩ = some (.pointer (some ⟨b, 0, none⟩)) := fun o => by rw [World.cell?_alloc_old _ _ _ (by simp; omega)]; exact p0
        have kz : ∀ i o, (wr.alloc o).cell? ⟨w3.heap.size, i, none⟩ = (#[Value.int .u32 (kidsOf s.σ r).a, .int .u32 (kidsOf s.σ r).b, .int .u32 (kidsOf s.σ r).c, .int .u32 (kidsOf s.σ r).d] : Array Value)[i]? := fun i o => by rw [World.cell?_alloc_old _ _ _ (by simp; omega)]; exact cell_of_blk hK i
        have kz0 := kz 0
        have kz1 := kz 1
        have kz2 := kz 2
        have kz3 := kz 3
        simp at kz0 kz1 kz2 kz3
        have hm0 := hm
        clear kz hP hO hK hX hm hE g1 g2 g3 g4
        obtain rfl | rfl | rfl | rfl | rfl : j = 0 ∨ j = 1 ∨ j = 2 ∨ j = 3 ∨ j = 4 := by omega
        · as_aux_lemma =>
          have e3 : withK ⟨q.2.1, q.2.1, q.2.1, q.2.1⟩ (3 - 0) (kth (kidsOf s.σ r) 0) = ⟨q.2.1, q.2.1, q.2.1, (kidsOf s.σ r).a⟩ := rfl
          have hn := HStep.out 0 HE.out
          rw [e3] at hn
          clear e3
          have HN := Lib.hid hn
          by_cases hz : (mk (E 0).1 s.most ⟨q.2.1, q.2.1, q.2.1, (kidsOf s.σ r).a⟩).2.2 = 0
          · as_aux_lemma =>
            have HZ := Lib.hid hz
            clear hz hn
            go_wp2_with (first
              | (go_at_call 83
                 refine (make4_ok _ _ s' q.2.1 q.2.1 q.2.1 (kidsOf s.σ r).a (HM.out.at'.below (below_a1 _ _)) ho4 ho4 ho4 b0 (by rw [hnx, hmx]; exact HZ.out)).mono ?_
                 rintro e w6 ⟨rfl, s6, hm6⟩
                 rw [hnx, hmx] at hm6
                 rw [hnx, hmx]
                 have hX6 := hm6.blk' hHG.out.2.2.2 (by rw [heap_alloc_old _ _ ltX]; exact HHX.out)
                 have x0 := cell_of_blk hX6 0
                 have f0 := free_of_blk hX6 0
                 simp at x0
                 clear hX6
                 have HM6 := Lib.hid hm6
                 clear hm6)
              | go_in)
            go_roundg (3)
            case measure => omega
            case rel =>
              exact ExRel.step (j := 0) (m := ⟨q.2.1, q.2.1, q.2.1, (kidsOf s.σ r).a⟩) (by omega) HM.out HHP.out HHO.out HHK.out HHX.out hHG.out.1 hHG.out.2.1 hHG.out.2.2.1 hHG.out.2.2.2 HB.out.1 HB.out.2 HM6.out HZ.out HN.out
          · as_aux_lemma =>
            have HZ := Lib.hid hz
            clear hz hn
            go_wp2_with (first
              | (go_at_call 83
                 refine (make4_err _ _ s' q.2.1 q.2.1 q.2.1 (kidsOf s.σ r).a (HM.out.at'.below (below_a1 _ _)) ho4 ho4 ho4 b0 (by rw [hnx, hmx]; exact HZ.out)).mono ?_
                 rintro e w6 ⟨rfl, s6, hm6⟩
                 rw [hnx, hmx] at hm6
                 rw [hnx, hmx]
                 have ltO : w.heap.size + 1 < wr.heap.size := (Array.getElem?_eq_some_iff.1 HHO.out).1
                 have hO6 := hm6.blk' hHG.out.2.1 (by rw [heap_alloc_old _ _ ltO]; exact HHO.out)
                 have gO6 := hm6.far hHG.out.2.1 (by simp; omega)
                 have o0 := cell_of_blk hO6 0
                 have o1 := cell_of_blk hO6 1
                 have f0 := free_of_blk hO6 0
                 have f1 := free_of_blk hO6 1
                 simp at o0 o1
                 have HM6 := Lib.hid hm6
                 have HGO6 := Lib.hid gO6
                 clear hO6 hm6 gO6)
              | go_in)
            have he4 : expand s.σ s.most r = ((mk (E 0).1 s.most ⟨q.2.1, q.2.1, q.2.1, (kidsOf s.σ r).a⟩).1, 0, (mk (E 0).1 s.most ⟨q.2.1, q.2.1, q.2.1, (kidsOf s.σ r).a⟩).2.2) := by
              have h4 : E 4 = E (0 + 1) := HStop.out _ (by omega) (by rw [HN.out]; exact HZ.out)
              rw [HFin.out, h4, HN.out, if_neg HZ.out]
            refine bodyPost_ret (v := .tuple #[noP, .iface 67 (.int .i64 (mk (E 0).1 s.most ⟨q.2.1, q.2.1, q.2.1, (kidsOf s.σ r).a⟩).2.2)]) (by simp [results, Try.results99, go_sem, o0, o1, noP]; try rfl) rfl ⟨by rw [he4]; simp only [pres, errv]; rw [if_neg HZ.out, if_neg HZ.out], s6, ?_⟩
            rw [he4]
            exact ((HM.out.below (below_a1 _ _)).trans HM6.out).only' (only_set2 _ _ _ _) (by omega) HGO6.out
        · as_aux_lemma =>
          have e3 : withK ⟨q.2.1, q.2.1, q.2.1, q.2.1⟩ (3 - 1) (kth (kidsOf s.σ r) 1) = ⟨q.2.1, q.2.1, (kidsOf s.σ r).b, q.2.1⟩ := rfl
          have hn := HStep.out 1 HE.out
          rw [e3] at hn
          clear e3
          have HN := Lib.hid hn
          by_cases hz : (mk (E 1).1 s.most ⟨q.2.1, q.2.1, (kidsOf s.σ r).b, q.2.1⟩).2.2 = 0
          · as_aux_lemma =>
            have HZ := Lib.hid hz
            clear hz hn
            go_wp2_with (first
              | (go_at_call 83
                 refine (make4_ok _ _ s' q.2.1 q.2.1 (kidsOf s.σ r).b q.2.1 (HM.out.at'.below (below_a1 _ _)) ho4 ho4 b1 ho4 (by rw [hnx, hmx]; exact HZ.out)).mono ?_
                 rintro e w6 ⟨rfl, s6, hm6⟩
                 rw [hnx, hmx] at hm6
                 rw [hnx, hmx]
                 have hX6 := hm6.blk' hHG.out.2.2.2 (by rw [heap_alloc_old _ _ ltX]; exact HHX.out)
                 have x0 := cell_of_blk hX6 1
                 have f0 := free_of_blk hX6 1
                 simp at x0
                 clear hX6
                 have HM6 := Lib.hid hm6
                 clear hm6)
              | go_in)
            go_roundg (2)
            case measure => omega
            case rel =>
              exact ExRel.step (j := 1) (m := ⟨q.2.1, q.2.1, (kidsOf s.σ r).b, q.2.1⟩) (by omega) HM.out HHP.out HHO.out HHK.out HHX.out hHG.out.1 hHG.out.2.1 hHG.out.2.2.1 hHG.out.2.2.2 HB.out.1 HB.out.2 HM6.out HZ.out HN.out
          · as_aux_lemma =>
            have HZ := Lib.hid hz
            clear hz hn
            go_wp2_with (first
              | (go_at_call 83
                 refine (make4_err _ _ s' q.2.1 q.2.1 (kidsOf s.σ r).b q.2.1 (HM.out.at'.below (below_a1 _ _)) ho4 ho4 b1 ho4 (by rw [hnx, hmx]; exact HZ.out)).mono ?_
                 rintro e w6 ⟨rfl, s6, hm6⟩
                 rw [hnx, hmx] at hm6
                 rw [hnx, hmx]
                 have ltO : w.heap.size + 1 < wr.heap.size := (Array.getElem?_eq_some_iff.1 HHO.out).1
                 have hO6 := hm6.blk' hHG.out.2.1 (by rw [heap_alloc_old _ _ ltO]; exact HHO.out)
                 have gO6 := hm6.far hHG.out.2.1 (by simp; omega)
                 have o0 := cell_of_blk hO6 0
                 have o1 := cell_of_blk hO6 1
                 have f0 := free_of_blk hO6 0
                 have f1 := free_of_blk hO6 1
                 simp at o0 o1
                 have HM6 := Lib.hid hm6
                 have HGO6 := Lib.hid gO6
                 clear hO6 hm6 gO6)
              | go_in)
            have he4 : expand s.σ s.most r = ((mk (E 1).1 s.most ⟨q.2.1, q.2.1, (kidsOf s.σ r).b, q.2.1⟩).1, 0, (mk (E 1).1 s.most ⟨q.2.1, q.2.1, (kidsOf s.σ r).b, q.2.1⟩).2.2) := by
              have h4 : E 4 = E (1 + 1) := HStop.out _ (by omega) (by rw [HN.out]; exact HZ.out)
              rw [HFin.out, h4, HN.out, if_neg HZ.out]
            refine bodyPost_ret (v := .tuple #[noP, .iface 67 (.int .i64 (mk (E 1).1 s.most ⟨q.2.1, q.2.1, (kidsOf s.σ r).b, q.2.1⟩).2.2)]) (by simp [results, Try.results99, go_sem, o0, o1, noP]; try rfl) rfl ⟨by rw [he4]; simp only [pres, errv]; rw [if_neg HZ.out, if_neg HZ.out], s6, ?_⟩
            rw [he4]
            exact ((HM.out.below (below_a1 _ _)).trans HM6.out).only' (only_set2 _ _ _ _) (by omega) HGO6.out
        · as_aux_lemma =>
          have e3 : withK ⟨q.2.1, q.2.1, q.2.1, q.2.1⟩ (3 - 2) (kth (kidsOf s.σ r) 2) = ⟨q.2.1, (kidsOf s.σ r).c, q.2.1, q.2.1⟩ := rfl
          have hn := HStep.out 2 HE.out
          rw [e3] at hn
          clear e3
          have HN := Lib.hid hn
          by_cases hz : (mk (E 2).1 s.most ⟨q.2.1, (kidsOf s.σ r).c, q.2.1, q.2.1⟩).2.2 = 0
          · as_aux_lemma =>
            have HZ := Lib.hid hz
            clear hz hn
            go_wp2_with (first
              | (go_at_call 83
                 refine (make4_ok _ _ s' q.2.1 (kidsOf s.σ r).c q.2.1 q.2.1 (HM.out.at'.below (below_a1 _ _)) ho4 b2 ho4 ho4 (by rw [hnx, hmx]; exact HZ.out)).mono ?_
                 rintro e w6 ⟨rfl, s6, hm6⟩
                 rw [hnx, hmx] at hm6
                 rw [hnx, hmx]
                 have hX6 := hm6.blk' hHG.out.2.2.2 (by rw [heap_alloc_old _ _ ltX]; exact HHX.out)
                 have x0 := cell_of_blk hX6 2
                 have f0 := free_of_blk hX6 2
                 simp at x0
                 clear hX6
                 have HM6 := Lib.hid hm6
                 clear hm6)
              | go_in)
            go_roundg (1)
            case measure => omega
            case rel =>
              exact ExRel.step (j := 2) (m := ⟨q.2.1, (kidsOf s.σ r).c, q.2.1, q.2.1⟩) (by omega) HM.out HHP.out HHO.out HHK.out HHX.out hHG.out.1 hHG.out.2.1 hHG.out.2.2.1 hHG.out.2.2.2 HB.out.1 HB.out.2 HM6.out HZ.out HN.out
          · as_aux_lemma =>
            have HZ := Lib.hid hz
            clear hz hn
            go_wp2_with (first
              | (go_at_call 83
                 refine (make4_err _ _ s' q.2.1 (kidsOf s.σ r).c q.2.1 q.2.1 (HM.out.at'.below (below_a1 _ _)) ho4 b2 ho4 ho4 (by rw [hnx, hmx]; exact HZ.out)).mono ?_
                 rintro e w6 ⟨rfl, s6, hm6⟩
                 rw [hnx, hmx] at hm6
                 rw [hnx, hmx]
                 have ltO : w.heap.size + 1 < wr.heap.size := (Array.getElem?_eq_some_iff.1 HHO.out).1
                 have hO6 := hm6.blk' hHG.out.2.1 (by rw [heap_alloc_old _ _ ltO]; exact HHO.out)
                 have gO6 := hm6.far hHG.out.2.1 (by simp; omega)
                 have o0 := cell_of_blk hO6 0
                 have o1 := cell_of_blk hO6 1
                 have f0 := free_of_blk hO6 0
                 have f1 := free_of_blk hO6 1
                 simp at o0 o1
                 have HM6 := Lib.hid hm6
                 have HGO6 := Lib.hid gO6
                 clear hO6 hm6 gO6)
              | go_in)
            have he4 : expand s.σ s.most r = ((mk (E 2).1 s.most ⟨q.2.1, (kidsOf s.σ r).c, q.2.1, q.2.1⟩).1, 0, (mk (E 2).1 s.most ⟨q.2.1, (kidsOf s.σ r).c, q.2.1, q.2.1⟩).2.2) := by
              have h4 : E 4 = E (2 + 1) := HStop.out _ (by omega) (by rw [HN.out]; exact HZ.out)
              rw [HFin.out, h4, HN.out, if_neg HZ.out]
            refine bodyPost_ret (v := .tuple #[noP, .iface 67 (.int .i64 (mk (E 2).1 s.most ⟨q.2.1, (kidsOf s.σ r).c, q.2.1, q.2.1⟩).2.2)]) (by simp [results, Try.results99, go_sem, o0, o1, noP]; try rfl) rfl ⟨by rw [he4]; simp only [pres, errv]; rw [if_neg HZ.out, if_neg HZ.out], s6, ?_⟩
            rw [he4]
            exact ((HM.out.below (below_a1 _ _)).trans HM6.out).only' (only_set2 _ _ _ _) (by omega) HGO6.out
        · as_aux_lemma =>
          have e3 : withK ⟨q.2.1, q.2.1, q.2.1, q.2.1⟩ (3 - 3) (kth (kidsOf s.σ r) 3) = ⟨(kidsOf s.σ r).d, q.2.1, q.2.1, q.2.1⟩ := rfl
          have hn := HStep.out 3 HE.out
          rw [e3] at hn
          clear e3
          have HN := Lib.hid hn
          by_cases hz : (mk (E 3).1 s.most ⟨(kidsOf s.σ r).d, q.2.1, q.2.1, q.2.1⟩).2.2 = 0
          · as_aux_lemma =>
            have HZ := Lib.hid hz
            clear hz hn
            go_wp2_with (first
              | (go_at_call 83
                 refine (make4_ok _ _ s' (kidsOf s.σ r).d q.2.1 q.2.1 q.2.1 (HM.out.at'.below (below_a1 _ _)) b3 ho4 ho4 ho4 (by rw [hnx, hmx]; exact HZ.out)).mono ?_
                 rintro e w6 ⟨rfl, s6, hm6⟩
                 rw [hnx, hmx] at hm6
                 rw [hnx, hmx]
                 have hX6 := hm6.blk' hHG.out.2.2.2 (by rw [heap_alloc_old _ _ ltX]; exact HHX.out)
                 have x0 := cell_of_blk hX6 3
                 have f0 := free_of_blk hX6 3
                 simp at x0
                 clear hX6
                 have HM6 := Lib.hid hm6
                 clear hm6)
              | go_in)
            go_roundg (0)
            case measure => omega
            case rel =>
              exact ExRel.step (j := 3) (m := ⟨(kidsOf s.σ r).d, q.2.1, q.2.1, q.2.1⟩) (by omega) HM.out HHP.out HHO.out HHK.out HHX.out hHG.out.1 hHG.out.2.1 hHG.out.2.2.1 hHG.out.2.2.2 HB.out.1 HB.out.2 HM6.out HZ.out HN.out
          · as_aux_lemma =>
            have HZ := Lib.hid hz
            clear hz hn
            go_wp2_with (first
              | (go_at_call 83
                 refine (make4_err _ _ s' (kidsOf s.σ r).d q.2.1 q.2.1 q.2.1 (HM.out.at'.below (below_a1 _ _)) b3 ho4 ho4 ho4 (by rw [hnx, hmx]; exact HZ.out)).mono ?_
                 rintro e w6 ⟨rfl, s6, hm6⟩
                 rw [hnx, hmx] at hm6
                 rw [hnx, hmx]
                 have ltO : w.heap.size + 1 < wr.heap.size := (Array.getElem?_eq_some_iff.1 HHO.out).1
                 have hO6 := hm6.blk' hHG.out.2.1 (by rw [heap_alloc_old _ _ ltO]; exact HHO.out)
                 have gO6 := hm6.far hHG.out.2.1 (by simp; omega)
                 have o0 := cell_of_blk hO6 0
                 have o1 := cell_of_blk hO6 1
                 have f0 := free_of_blk hO6 0
                 have f1 := free_of_blk hO6 1
                 simp at o0 o1
                 have HM6 := Lib.hid hm6
                 have HGO6 := Lib.hid gO6
                 clear hO6 hm6 gO6)
              | go_in)
            have he4 : expand s.σ s.most r = ((mk (E 3).1 s.most ⟨(kidsOf s.σ r).d, q.2.1, q.2.1, q.2.1⟩).1, 0, (mk (E 3).1 s.most ⟨(kidsOf s.σ r).d, q.2.1, q.2.1, q.2.1⟩).2.2) := by
              have h4 : E 4 = E (3 + 1) := HStop.out _ (by omega) (by rw [HN.out]; exact HZ.out)
              rw [HFin.out, h4, HN.out, if_neg HZ.out]
            refine bodyPost_ret (v := .tuple #[noP, .iface 67 (.int .i64 (mk (E 3).1 s.most ⟨(kidsOf s.σ r).d, q.2.1, q.2.1, q.2.1⟩).2.2)]) (by simp [results, Try.results99, go_sem, o0, o1, noP]; try rfl) rfl ⟨by rw [he4]; simp only [pres, errv]; rw [if_neg HZ.out, if_neg HZ.out], s6, ?_⟩
            rw [he4]
            exact ((HM.out.below (below_a1 _ _)).trans HM6.out).only' (only_set2 _ _ _ _) (by omega) HGO6.out
        · as_aux_lemma =>
          clear kz0 kz1 kz2 kz3 pz0
          have x0 := cell_of_blk HHX.out 0
          have x1 := cell_of_blk HHX.out 1
          have x2 := cell_of_blk HHX.out 2
          have x3 := cell_of_blk HHX.out 3
          simp at x0 x1 x2 x3
          have hfin4 : expand s.σ s.most r = mk (E 4).1 s.most (E 4).2.1 := by rw [HFin.out, if_pos HE.out]
          have HF4 := Lib.hid hfin4
          obtain ⟨c0, c1, c2, c3⟩ := HBD.out 4
          have hlen := hm0.at'.len.2
          rw [hnx] at hlen
          have d0 := Nat.lt_of_lt_of_le c0 hlen
          have d1 := Nat.lt_of_lt_of_le c1 hlen
          have d2 := Nat.lt_of_lt_of_le c2 hlen
          have d3 := Nat.lt_of_lt_of_le c3 hlen
          clear hfin4 c0 c1 c2 c3 hlen hm0
          by_cases hz : (mk (E 4).1 s.most (E 4).2.1).2.2 = 0
          · as_aux_lemma =>
            have HZ := Lib.hid hz
            clear hz
            go_wp2_with (first
              | (go_at_call 123
                 refine (root_ok _ b r s' (E 4).2.1 HM.out.at' (by omega) (by omega) (by omega) (by omega) (by rw [hnx, hmx]; exact HZ.out)).mono ?_
                 rintro e w6 ⟨rfl, s6, hm6⟩
                 rw [hnx, hmx] at hm6
                 rw [hnx, hmx]
                 have hO6 := hm6.blk' hHG.out.2.1 HHO.out
                 have gO6 := hm6.far hHG.out.2.1 (Array.getElem?_eq_some_iff.1 HHO.out).1
                 have o0 := cell_of_blk hO6 0
                 have o1 := cell_of_blk hO6 1
                 have f0 := free_of_blk hO6 0
                 have f1 := free_of_blk hO6 1
                 simp at o0 o1
                 have HM6 := Lib.hid hm6
                 have HGO6 := Lib.hid gO6
                 clear hO6 hm6 gO6)
              | go_in)
            refine bodyPost_ret (v := .tuple #[pval b (mk (E 4).1 s.most (E 4).2.1).2.1, .nilIface]) (by simp [results, Try.results99, go_sem, o0, o1, pval]) rfl ⟨by rw [HF4.out]; simp only [pres, errv]; rw [if_pos HZ.out, if_pos HZ.out], s6, ?_⟩
            rw [HF4.out]
            exact (HM.out.trans HM6.out).only' (only_set2 _ _ _ _) (by omega) HGO6.out
          · as_aux_lemma =>
            have HZ := Lib.hid hz
            clear hz
            go_wp2_with (first
              | (go_at_call 123
                 refine (root_err _ b r s' (E 4).2.1 HM.out.at' (by omega) (by omega) (by omega) (by omega) (by rw [hnx, hmx]; exact HZ.out)).mono ?_
                 rintro e w6 ⟨rfl, s6, hm6⟩
                 rw [hnx, hmx] at hm6
                 rw [hnx, hmx]
                 have hO6 := hm6.blk' hHG.out.2.1 HHO.out
                 have gO6 := hm6.far hHG.out.2.1 (Array.getElem?_eq_some_iff.1 HHO.out).1
                 have o0 := cell_of_blk hO6 0
                 have o1 := cell_of_blk hO6 1
                 have f0 := free_of_blk hO6 0
                 have f1 := free_of_blk hO6 1
                 simp at o0 o1
                 have HM6 := Lib.hid hm6
                 have HGO6 := Lib.hid gO6
                 clear hO6 hm6 gO6)
              | go_in)
            refine bodyPost_ret (v := .tuple #[noP, .iface 67 (.int .i64 (mk (E 4).1 s.most (E 4).2.1).2.2)]) (by simp [results, Try.results99, go_sem, o0, o1, noP]) rfl ⟨by rw [HF4.out]; simp only [pres, errv]; rw [if_neg HZ.out, if_neg HZ.out], s6, ?_⟩
            rw [HF4.out]
            exact (HM.out.trans HM6.out).only' (only_set2 _ _ _ _) (by omega) HGO6.out
    · have he : errv q.2.2 = .iface 67 (.int .i64 q.2.2) := by simp [errv, hz]
      rw [he]
      have hfin : expand s.σ s.most r = (q.1, 0, q.2.2) := by rw [hexp]; simp only [bnd]; rw [if_neg hz]
      have HFin := Lib.hid hfin
      have HZ := Lib.hid hz
      have o0 := cell_of_blk hO 0
      have o1 := cell_of_blk hO 1
      have f0 := free_of_blk hO 0
      have f1 := free_of_blk hO 1
      simp at o0 o1
      have HMW := Lib.hid hmw
      have HGO := Lib.hid gO
      clear hm1 hmw hexp hqw hz he hfin hP hO hK gP gO gK
      go_wp2
      refine bodyPost_ret (v := .tuple #[noP, .iface 67 (.int .i64 q.2.2)]) (by simp [results, Try.results99, go_sem, o0, o1, noP]) rfl ⟨by rw [HFin.out]; simp [pres, errv, HZ.out], s1, ?_⟩
      rw [HFin.out]
      exact HMW.out.only' (only_set2 _ _ _ _) (by omega) HGO.out
end Go.Proofs.Ytkelfgigigcnjaa
