/-
  quad's Reach and Set.
-/
import Derived.Test.YtkelfgigigcnjaaQdX
import Derived.Deep.RegionHeld3
namespace Go.Proofs.Ytkelfgigigcnjaa
open Go.RowKit Go.Bv

/-- Is a point on the plane? -/
def right (px py : Int) : Bool := decide (-2305843009213693952 < px) && decide (px < 2305843009213693952) && decide (-2305843009213693952 < py) && decide (py < 2305843009213693952)
theorem right_iff (px py : Int) : right px py = true ↔ (-2305843009213693952 < px ∧ px < 2305843009213693952) ∧ (-2305843009213693952 < py ∧ py < 2305843009213693952) := by
  simp only [right, Bool.and_eq_true, decide_eq_true_eq]; omega

set_option maxRecDepth 100000 in
theorem right_st (w : World) (px py : Int) :
    Calls Try.prog 24 #[.agg #[.int .i64 px, .int .i64 py]] w fun e w' => e = .returned (.bool (right px py)) ∧ Below w.heap.size w w' := by
  have hin : Hid (right px py = (decide (-2305843009213693952 < px) && decide (px < 2305843009213693952) && decide (-2305843009213693952 < py) && decide (py < 2305843009213693952))) := rfl
  go_enter Try.func24, Try.ntmps24
  go_wp2_with go_in
  all_goals
    go_ret
    refine ⟨?_, below_a1 w _⟩
    rw [hin.out]
    simp [*]
    try omega

theorem expand_st (w : World) (b r : Nat) (s : SV) (h : StoreAt w b s) (h1 : 1 ≤ lev s.σ r) :
    Calls Try.prog 99 #[pval b r] w fun e w' => e = .returned (pres b (expand s.σ s.most r)) ∧ ∃ s', Made w w' b s (expand s.σ s.most r).1 s' := by
  by_cases hl : 62 ≤ lev s.σ r
  · exact expand_bad w b r s h (lt_of_lev (by omega)) hl
  · exact expand_good w b r ((lev s.σ r).toNat - 1) s h (by omega) (by omega)
theorem expand_ok (w : World) (b r : Nat) (s : SV) (h : StoreAt w b s) (h1 : 1 ≤ lev s.σ r) (hz : (expand s.σ s.most r).2.2 = 0) :
    Calls Try.prog 99 #[.agg #[.pointer (some ⟨b, 0, none⟩), .int .u32 r]] w fun e w' =>
      e = .returned (.tuple #[.agg #[.pointer (some ⟨b, 0, none⟩), .int .u32 (expand s.σ s.most r).2.1], .nilIface]) ∧ ∃ s', Made w w' b s (expand s.σ s.most r).1 s' := by
  refine (expand_st w b r s h h1).mono ?_
  rintro e w' ⟨he, hm⟩
  refine ⟨?_, hm⟩
  rw [he]; simp [pres, hz, errv, pval]
theorem expand_err (w : World) (b r : Nat) (s : SV) (h : StoreAt w b s) (h1 : 1 ≤ lev s.σ r) (hz : (expand s.σ s.most r).2.2 ≠ 0) :
    Calls Try.prog 99 #[.agg #[.pointer (some ⟨b, 0, none⟩), .int .u32 r]] w fun e w' =>
      e = .returned (.tuple #[.agg #[.pointer none, .int .u32 0], .iface 67 (.int .i64 (expand s.σ s.most r).2.2)]) ∧ ∃ s', Made w w' b s (expand s.σ s.most r).1 s' := by
  refine (expand_st w b r s h h1).mono ?_
  rintro e w' ⟨he, hm⟩
  refine ⟨?_, hm⟩
  rw [he]; simp [pres, hz, errv, noP]

theorem reach_in {most : Nat} {px py : Int} {σ : List Nd} {r : Nat} (h : inSq (lev σ r) px py = true) : ∀ n, reach most px py n σ r = (σ, r, 0)
  | 0 => rfl
  | n + 1 => by rw [reach, if_pos h]

/-- Expand, of any square that has four. -/
theorem exp_ok' {σ : List Nd} {r : Nat} (W : Wf σ) (S : Sm σ) (most : Nat) (hl : 1 ≤ lev σ r) :
    Grew σ (expand σ most r).1 ∧ ((expand σ most r).2.2 = 0 → lev (expand σ most r).1 (expand σ most r).2.1 = lev σ r + 1) := by
  by_cases h : 62 ≤ lev σ r
  · have e : expand σ most r = (σ, 0, 1) := by unfold expand; rw [if_pos (.inr h)]
    rw [e]
    exact ⟨Grew.refl W S, fun h => by cases h⟩
  · obtain ⟨G, h2⟩ := exp_ok (most := most) (r := r) (m := (lev σ r).toNat - 1) W S (by omega) (by omega)
    refine ⟨G, fun hz => ?_⟩
    rcases h2 with ⟨_, X⟩ | h7
    · exact X.lv
    · omega

/-- Where Reach's loop stands. -/
def RRel (w : World) (b : Nat) (s : SV) (px py : Int) (fin : List Nd × Nat × Nat) (g : Nat) (wr : World) : Prop :=
  ∃ (r' : Nat) (s' : SV), Made w wr b s s'.σ s' ∧ Sm s'.σ ∧ 1 ≤ lev s'.σ r' ∧ 62 ≤ lev s'.σ r' + g ∧ reach s.most px py g s'.σ r' = fin ∧
    wr.heap[w.heap.size]? = some (.cells #[.pointer (some ⟨b, 0, none⟩), .int .u32 r'] 51 (0, 0)) ∧
    wr.heap[w.heap.size + 1]? = some (.cells #[.int .i64 px, .int .i64 py] 45 (0, 0)) ∧
    wr.heap[w.heap.size + 1 + 1]? = some (.cells #[.pointer none, .int .u32 0] 51 (0, 0)) ∧
    w.heap.size ∉ foot b s' ∧ w.heap.size + 1 ∉ foot b s' ∧ w.heap.size + 1 + 1 ∉ foot b s'

set_option maxRecDepth 100000 in
set_option maxHeartbeats 4000000 in
theorem reach_st (w : World) (b r : Nat) (s : SV) (px py : Int) (h : StoreAt w b s) (S : Sm s.σ) (h3 : 3 ≤ lev s.σ r) (hq : right px py = true) :
    Calls Try.prog 91 #[.agg #[.pointer (some ⟨b, 0, none⟩), .int .u32 r], .agg #[.int .i64 px, .int .i64 py]] w fun e w' =>
      e = .returned (pres b (reach s.most px py 62 s.σ r)) ∧ ∃ s', Made w w' b s (reach s.most px py 62 s.σ r).1 s' := by
  have hr : r < s.σ.length := lt_of_lev (by omega)
  have hr4 : r < 4294967296 := by have := h.len.2; omega
  have H := Lib.hid h
  have HS : Hid (StoreAt (((w.alloc (.cells #[.pointer (some ⟨b, 0, none⟩), .int .u32 r] 51)).alloc (.cells #[.int .i64 px, .int .i64 py] 45)).alloc (.cells #[.pointer none, .int .u32 0] 51)) b s) := h.below (below_a3 w _ _ _)
  have HQ := Lib.hid hq
  have HSM := Lib.hid S
  have H3 := Lib.hid h3
  clear h hq S
  go_enter Try.func91, Try.ntmps91
  go_wp2_with (first
    | (go_at_call 31; refine (level_st _ _ _ _ HS.out hr4).mono ?_; rintro e w1 ⟨rfl, rfl⟩)
    | (go_at_call 24; refine (right_st _ _ _).mono ?_; rintro e w1 ⟨rfl, hb1⟩; rw [HQ.out]))
  have hb := below_then (below_a3 w _ _ _) hb1
  have k0 := kept hb1 (blk3_0 w _ _ _)
  have k1 := kept hb1 (blk3_1 w _ _ _)
  have k2 := kept hb1 (blk3_2 w _ _ _)
  have HK0 := Lib.hid k0
  have HK1 := Lib.hid k1
  have HK2 := Lib.hid k2
  have HB := Lib.hid hb
  clear hb1 k0 k1 k2 hb
  go_wp2_with fail
  go_loopg [] 62 (fun g wr => RRel w b s px py (reach s.most px py 62 s.σ r) g wr)
  case atStart =>
    exact ⟨r, s, Made.of_below H.out HB.out, HSM.out, by have := H3.out; omega, by have := H3.out; omega, rfl, HK0.out, HK1.out, HK2.out, foot_lt H.out (by omega), foot_lt H.out (by omega), foot_lt H.out (by omega)⟩
  case round =>
    obtain ⟨r', s', hm, hsm, hl1, hl62, hfin, hP, hQ, hO, g1, g2, g3⟩ := hrel
    have hr1 : r' < s'.σ.length := lt_of_lev (by omega)
    have hr4' : r' < 4294967296 := by have := hm.at'.len.2; omega
    have hmx := hm.most
    have HM := Lib.hid hm
    have HSM' := Lib.hid hsm
    have HL1 := Lib.hid hl1
    have HL2 := Lib.hid hl62
    have HFin := Lib.hid hfin
    have HP := Lib.hid hP
    have HQ' := Lib.hid hQ
    have HO := Lib.hid hO
    have HG := Lib.hid (And.intro g1 (And.intro g2 g3))
    have HMX := Lib.hid hmx
    have p0 := cell_of_blk hP 0
    have p1 := cell_of_blk hP 1
    have q0 := cell_of_blk hQ 0
    have q1 := cell_of_blk hQ 1
    simp at p0 p1 q0 q1
    clear hm hsm hl1 hl62 hfin hP hQ hO g1 g2 g3 hmx hr1
    by_cases hin : inSq (lev s'.σ r') px py = true
    · have HIN := Lib.hid hin
      clear hin
      go_wp2_with (first
        | (go_at_call 87
           refine (has_st _ b r' s' px py HM.out.at' hr4').mono ?_
           rintro e w1 ⟨rfl, hb1⟩
           rw [HIN.out]
           have k0 := kept hb1 HP.out
           have k2 := kept hb1 HO.out
           have p0' := cell_of_blk k0 0
           have p1' := cell_of_blk k0 1
           have o0 := cell_of_blk k2 0
           have o1 := cell_of_blk k2 1
           have f0 := free_of_blk k2 0
           have f1 := free_of_blk k2 1
           simp at p0' p1' o0 o1
           have HB1 := Lib.hid hb1
           clear hb1 k0 k2)
        | go_in)
      have hf2 : reach s.most px py 62 s.σ r = (s'.σ, r', 0) := by rw [← HFin.out, reach_in HIN.out]
      refine bodyPost_ret (v := .tuple #[pval b r', .nilIface]) (by simp [results, Try.results91, go_sem, o0, o1, pval]) rfl ⟨by rw [hf2]; simp [pres, errv], s', ?_⟩
      rw [hf2]
      exact (HM.out.below HB1.out).only' (only_set2 _ _ _ _) (by omega) HG.out.2.2
    · have hinf : inSq (lev s'.σ r') px py = false := by simpa using hin
      have HIN := Lib.hid hinf
      have hg1 : ∃ g', gk = g' + 1 := by
        cases gk with
        | zero =>
          exfalso
          have h62 := lev_le HM.out.at'.wf r'
          have hq := (right_iff px py).1 HQ.out
          have e : lev s'.σ r' = 62 := by have := HL2.out; omega
          apply hin
          rw [inSq_iff, e, show hf 62 = 2305843009213693952 by rfl]
          omega
        | succ g' => exact ⟨g', rfl⟩
      obtain ⟨g', rfl⟩ := hg1
      have hst : reach s.most px py 62 s.σ r = bnd (expand s'.σ s'.most r') fun σ' r' => reach s.most px py g' σ' r' := by
        rw [← HFin.out, reach, if_neg hin, HMX.out]
      have HST := Lib.hid hst
      clear hin hinf hst
      have hmex := exp_ok' HM.out.at'.wf HSM'.out s'.most HL1.out
      by_cases hz : (expand s'.σ s'.most r').2.2 = 0
      · have HZ := Lib.hid hz
        have HEX := Lib.hid hmex
        clear hz hmex
        go_wp2_with (first
          | (go_at_call 87
             refine (has_st _ b r' s' px py HM.out.at' hr4').mono ?_
             rintro e w1 ⟨rfl, hb1⟩
             rw [HIN.out]
             have k0 := kept hb1 HP.out
             have p0' := cell_of_blk k0 0
             have p1' := cell_of_blk k0 1
             simp at p0' p1'
             have HB1 := Lib.hid hb1
             clear hb1 k0)
          | (go_at_call 99
             refine (expand_ok _ b r' s' (HM.out.at'.below HB1.out) HL1.out HZ.out).mono ?_
             rintro e w2 ⟨rfl, s6, hm6⟩
             have k0 := hm6.blk' HG.out.1 (kept HB1.out HP.out)
             have e0 := cell_of_blk k0 0
             have e1 := cell_of_blk k0 1
             simp at e0 e1
             have HK0' := Lib.hid k0
             have f0 := free_of_blk k0 0
             have f1 := free_of_blk k0 1
             have ltk : w.heap.size < w2.heap.size := (Array.getElem?_eq_some_iff.1 k0).1
             have HM6 := Lib.hid hm6
             clear hm6 k0)
          | go_in)
        go_roundg g'
        case measure => omega
        case rel =>
          have hk := HM6.out.blk' HG.out.2.1 (kept HB1.out HQ'.out)
          have ho := HM6.out.blk' HG.out.2.2 (kept HB1.out HO.out)
          have lt1 : w.heap.size + 1 < w2.heap.size := (Array.getElem?_eq_some_iff.1 hk).1
          have lt2 : w.heap.size + 1 + 1 < w2.heap.size := (Array.getElem?_eq_some_iff.1 ho).1
          have l1 : w.heap.size < w1.heap.size := (Array.getElem?_eq_some_iff.1 (kept HB1.out HP.out)).1
          have l2 : w.heap.size + 1 < w1.heap.size := (Array.getElem?_eq_some_iff.1 (kept HB1.out HQ'.out)).1
          have l3 : w.heap.size + 1 + 1 < w1.heap.size := (Array.getElem?_eq_some_iff.1 (kept HB1.out HO.out)).1
          have hlv := HEX.out.2 HZ.out
          refine ⟨(expand s'.σ s'.most r').2.1, s6, ?_, ?_, ?_, ?_, ?_, ?_, ?_, ?_, HM6.out.far HG.out.1 l1, HM6.out.far HG.out.2.1 l2, HM6.out.far HG.out.2.2 l3⟩
          · have hmm := ((HM.out.below HB1.out).trans HM6.out).only' (only_set2 w2 w.heap.size (.pointer (some ⟨b, 0, none⟩)) (.int .u32 (expand s'.σ s'.most r').2.1)) (Nat.le_refl _) (HM6.out.far HG.out.1 l1)
            rw [← HM6.out.σ] at hmm
            exact hmm.below (below_a1 _ _)
          · rw [HM6.out.σ]; exact HEX.out.1.sm
          · rw [HM6.out.σ, hlv]; have := HL1.out; omega
          · rw [HM6.out.σ, hlv]; have := HL2.out; omega
          · rw [HM6.out.σ, HST.out]; simp only [bnd]; rw [if_pos HZ.out]
          · rw [heap_alloc_old _ _ (by simp; omega)]; exact set2_blk HK0'.out
          · rw [heap_alloc_old _ _ (by simp; omega), heap_setCell_other _ _ _ _ (by simp <;> omega), heap_setCell_other _ _ _ _ (by simp <;> omega)]; exact hk
          · rw [heap_alloc_old _ _ (by simp; omega), heap_setCell_other _ _ _ _ (by simp; omega), heap_setCell_other _ _ _ _ (by simp; omega)]; exact ho
      · have HZ := Lib.hid hz
        clear hz hmex
        go_wp2_with (first
          | (go_at_call 87
             refine (has_st _ b r' s' px py HM.out.at' hr4').mono ?_
             rintro e w1 ⟨rfl, hb1⟩
             rw [HIN.out]
             have k0 := kept hb1 HP.out
             have p0' := cell_of_blk k0 0
             have p1' := cell_of_blk k0 1
             simp at p0' p1'
             have HB1 := Lib.hid hb1
             clear hb1 k0)
          | (go_at_call 99
             refine (expand_err _ b r' s' (HM.out.at'.below HB1.out) HL1.out HZ.out).mono ?_
             rintro e w2 ⟨rfl, s6, hm6⟩
             have k2 := hm6.blk' HG.out.2.2 (kept HB1.out HO.out)
             have ltk : w.heap.size + 1 + 1 < w2.heap.size := (Array.getElem?_eq_some_iff.1 k2).1
             have o0 := cell_of_blk k2 0
             have o1 := cell_of_blk k2 1
             have f0 := free_of_blk k2 0
             have f1 := free_of_blk k2 1
             simp at o0 o1
             have HM6 := Lib.hid hm6
             clear hm6 k2)
          | go_in)
        have hf2 : reach s.most px py 62 s.σ r = ((expand s'.σ s'.most r').1, 0, (expand s'.σ s'.most r').2.2) := by rw [HST.out]; simp only [bnd]; rw [if_neg HZ.out]
        have l3 : w.heap.size + 1 + 1 < w1.heap.size := (Array.getElem?_eq_some_iff.1 (kept HB1.out HO.out)).1
        refine bodyPost_ret (v := .tuple #[noP, .iface 67 (.int .i64 (expand s'.σ s'.most r').2.2)]) (by simp [results, Try.results91, go_sem, o0, o1, noP, ltk]) rfl ⟨by rw [hf2]; simp only [pres, errv]; rw [if_neg HZ.out, if_neg HZ.out], s6, ?_⟩
        rw [hf2]
        exact (((HM.out.below HB1.out).trans HM6.out).only' (only_set2 _ _ _ _) (by omega) (HM6.out.far HG.out.2.2 l3)).below (below_a1 _ _)

theorem below_blk2 {w w1 : World} {A B C : Obj} (hb1 : Below (((w.alloc A).alloc B).alloc C).heap.size (((w.alloc A).alloc B).alloc C) w1) : w1.heap[w.heap.size + 1 + 1]? = some C := kept hb1 (blk3_2 w _ _ _)

set_option maxRecDepth 100000 in
set_option maxHeartbeats 1000000 in
theorem reach_far (w : World) (b r : Nat) (s : SV) (px py : Int) (h : StoreAt w b s) (h3 : 3 ≤ lev s.σ r) (hq : right px py = false) :
    Calls Try.prog 91 #[.agg #[.pointer (some ⟨b, 0, none⟩), .int .u32 r], .agg #[.int .i64 px, .int .i64 py]] w fun e w' =>
      e = .returned (.tuple #[noP, .iface 67 (.int .i64 8)]) ∧ Below w.heap.size w w' := by
  have hr : r < s.σ.length := lt_of_lev (by omega)
  have hr4 : r < 4294967296 := by have := h.len.2; omega
  have HS : Hid (StoreAt (((w.alloc (.cells #[.pointer (some ⟨b, 0, none⟩), .int .u32 r] 51)).alloc (.cells #[.int .i64 px, .int .i64 py] 45)).alloc (.cells #[.pointer none, .int .u32 0] 51)) b s) := h.below (below_a3 w _ _ _)
  have HQ := Lib.hid hq
  clear h hq
  go_enter Try.func91, Try.ntmps91
  go_wp2_with (first
    | (go_at_call 31; refine (level_st _ _ _ _ HS.out hr4).mono ?_; rintro e w1 ⟨rfl, rfl⟩)
    | (go_at_call 24; refine (right_st _ _ _).mono ?_; rintro e w1 ⟨rfl, hb1⟩; rw [HQ.out]
       have k2 := below_blk2 hb1
       have o0 := cell_of_blk k2 0
       have o1 := cell_of_blk k2 1
       have f0 := free_of_blk k2 0
       have f1 := free_of_blk k2 1
       simp at o0 o1
       have HB1 := Lib.hid hb1
       clear hb1 k2)
    | go_in)
  refine bodyPost_ret (v := .tuple #[noP, .iface 67 (.int .i64 8)]) (by simp [results, Try.results91, go_sem, o0, o1, noP]) rfl ⟨rfl, ?_⟩
  exact ((below_then (below_a3 w _ _ _) HB1.out).setCell (by simp; omega) _).setCell (by simp; omega) _

theorem reach_yes (w : World) (b r : Nat) (s : SV) (px py : Int) (h : StoreAt w b s) (S : Sm s.σ) (h3 : 3 ≤ lev s.σ r) (hq : right px py = true) (hz : (reach s.most px py 62 s.σ r).2.2 = 0) :
    Calls Try.prog 91 #[.agg #[.pointer (some ⟨b, 0, none⟩), .int .u32 r], .agg #[.int .i64 px, .int .i64 py]] w fun e w' =>
      e = .returned (.tuple #[.agg #[.pointer (some ⟨b, 0, none⟩), .int .u32 (reach s.most px py 62 s.σ r).2.1], .nilIface]) ∧ ∃ s', Made w w' b s (reach s.most px py 62 s.σ r).1 s' := by
  refine (reach_st w b r s px py h S h3 hq).mono ?_
  rintro e w' ⟨he, hm⟩
  refine ⟨?_, hm⟩
  rw [he]; simp [pres, hz, errv, pval]
theorem reach_no (w : World) (b r : Nat) (s : SV) (px py : Int) (h : StoreAt w b s) (S : Sm s.σ) (h3 : 3 ≤ lev s.σ r) (hq : right px py = true) (hz : (reach s.most px py 62 s.σ r).2.2 ≠ 0) :
    Calls Try.prog 91 #[.agg #[.pointer (some ⟨b, 0, none⟩), .int .u32 r], .agg #[.int .i64 px, .int .i64 py]] w fun e w' =>
      e = .returned (.tuple #[.agg #[.pointer none, .int .u32 0], .iface 67 (.int .i64 (reach s.most px py 62 s.σ r).2.2)]) ∧ ∃ s', Made w w' b s (reach s.most px py 62 s.σ r).1 s' := by
  refine (reach_st w b r s px py h S h3 hq).mono ?_
  rintro e w' ⟨he, hm⟩
  refine ⟨?_, hm⟩
  rw [he]; simp [pres, hz, errv, noP]

/-- Behind the call of set. -/
def PutMid (w : World) (b : Nat) (s : SV) (r : Nat) (q : List Nd × Nat × Nat) (u9 u8 : Value) (wc : World) : Prop :=
  ∃ s', Made w wc b s q.1 s' ∧ u9 = .int .u32 q.2.1 ∧ u8 = errv q.2.2 ∧
    wc.heap[w.heap.size]? = some (.cells #[.pointer (some ⟨b, 0, none⟩), .int .u32 r] 51 (0, 0)) ∧
    wc.heap[w.heap.size + 1 + 1]? = some (.cells #[.pointer none, .int .u32 0] 51 (0, 0)) ∧
    w.heap.size + 1 + 1 ∉ foot b s'

set_option maxRecDepth 100000 in
set_option maxHeartbeats 4000000 in
theorem qset_st (w : World) (b r : Nat) (s : SV) (px py : Int) (alive : Bool) (h : StoreAt w b s) (S : Sm s.σ) (h3 : 3 ≤ lev s.σ r) (hq : right px py = true) :
    Calls Try.prog 37 #[.agg #[.pointer (some ⟨b, 0, none⟩), .int .u32 r], .agg #[.int .i64 px, .int .i64 py], .bool alive] w fun e w' =>
      e = .returned (pres b (setP s.σ s.most r px py alive)) ∧ ∃ s', Made w w' b s (setP s.σ s.most r px py alive).1 s' := by
  have H := Lib.hid h
  have hbl := below_a3 w (.cells #[.pointer (some ⟨b, 0, none⟩), .int .u32 r] 51) (.cells #[.int .i64 px, .int .i64 py] 45) (.cells #[.pointer none, .int .u32 0] 51)
  have HB := Lib.hid hbl
  have HS := Lib.hid (h.below hbl)
  have HQ := Lib.hid hq
  have HSM := Lib.hid S
  have H3 := Lib.hid h3
  have hqq := (right_iff px py).1 hq
  have RO := reach_ok (most := s.most) (px := px) (py := py) (by omega) (by omega) 62 r h.wf S (by omega) (by omega)
  clear h hq S h3 hbl hqq
  by_cases hz : (reach s.most px py 62 s.σ r).2.2 = 0
  · have HZ := Lib.hid hz
    have hfin : setP s.σ s.most r px py alive = setC (reach s.most px py 62 s.σ r).1 s.most (lev (reach s.most px py 62 s.σ r).1 (reach s.most px py 62 s.σ r).2.1).toNat (reach s.most px py 62 s.σ r).2.1
        (px + hf (lev (reach s.most px py 62 s.σ r).1 (reach s.most px py 62 s.σ r).2.1)) (py + hf (lev (reach s.most px py 62 s.σ r).1 (reach s.most px py 62 s.σ r).2.1)) alive := by
      unfold setP bnd; rw [if_pos hz]
    have HFin := Lib.hid hfin
    have HRO := Lib.hid RO
    clear hz hfin RO
    go_enter Try.func37, Try.ntmps37
    go_wp2_with (
       go_at_call 91
       refine (reach_yes _ b r s px py HS.out HSM.out H3.out HQ.out HZ.out).mono ?_
       rintro e w1 ⟨rfl, s1, hm1⟩
       have k0 := hm1.blk' (foot_lt H.out (by omega)) (blk3_0 w _ _ _)
       have k1 := hm1.blk' (foot_lt H.out (by omega)) (blk3_1 w _ _ _)
       have k2 := hm1.blk' (foot_lt H.out (by omega)) (blk3_2 w _ _ _)
       have e0 := cell_of_blk k0 0
       have e1 := cell_of_blk k0 1
       simp at e0 e1
       have f0 := free_of_blk k0 0
       have f1 := free_of_blk k0 1
       have HK0 := Lib.hid k0
       have HK1 := Lib.hid k1
       have HK2 := Lib.hid k2
       have HM1 := Lib.hid hm1
       clear hm1 k0 k1 k2)
    have hR : ReachOk s.σ (reach s.most px py 62 s.σ r).1 r (reach s.most px py 62 s.σ r).2.1 px py := by
      rcases HRO.out.2 with ⟨_, R⟩ | h7
      · exact R
      · have := HZ.out; omega
    have hσ := HM1.out.σ
    have hmo := HM1.out.most
    have hbase := HM1.out.behind HB.out
    generalize (reach s.most px py 62 s.σ r).2.1 = r' at hR HFin ⊢
    rw [← hσ] at hR HFin
    have HFin : Hid (setP s.σ s.most r px py alive = setC s1.σ s1.most (lev s1.σ r').toNat r' (px + hf (lev s1.σ r')) (py + hf (lev s1.σ r')) alive) := Lib.hid (by rw [HFin.out, hmo])
    have hlow := hR.low
    have h3 := H3.out
    have hr1 : r' < s1.σ.length := lt_of_lev (by omega)
    obtain ⟨m, hm⟩ : ∃ m : Nat, lev s1.σ r' = (m + 1 : Nat) := ⟨(lev s1.σ r' - 1).toNat, by omega⟩
    have hin := (inSq_iff _ _ _).1 hR.has
    obtain ⟨W, hWe⟩ : ∃ W, W = ((w1.setCell ⟨w.heap.size, 0, none⟩ (.pointer (some ⟨b, 0, none⟩))).setCell ⟨w.heap.size, 1, none⟩ (.int .u32 r')) := ⟨_, rfl⟩
    rw [← hWe]
    have l0 : w.heap.size < w1.heap.size := (Array.getElem?_eq_some_iff.1 HK0.out).1
    have g0 : w.heap.size ∉ foot b s1 := HM1.out.far (foot_lt H.out (by omega)) (by simp; omega)
    have g2 : w.heap.size + 1 + 1 ∉ foot b s1 := HM1.out.far (foot_lt H.out (by omega)) (by simp)
    have hMW : Made w W b s s1.σ s1 := by
      rw [hWe, hσ]; exact hbase.only' (only_set2 _ _ _ _) (Nat.le_refl _) g0
    have kP : W.heap[w.heap.size]? = some (.cells #[.pointer (some ⟨b, 0, none⟩), .int .u32 r'] 51 (0, 0)) := by rw [hWe]; exact set2_blk HK0.out
    have kQ : W.heap[w.heap.size + 1]? = some (.cells #[.int .i64 px, .int .i64 py] 45 (0, 0)) := by
      rw [hWe, heap_setCell_other _ _ _ _ (by simp), heap_setCell_other _ _ _ _ (by simp)]; exact HK1.out
    have kO : W.heap[w.heap.size + 1 + 1]? = some (.cells #[.pointer none, .int .u32 0] 51 (0, 0)) := by
      rw [hWe, heap_setCell_other _ _ _ _ (by simp; omega), heap_setCell_other _ _ _ _ (by simp; omega)]; exact HK2.out
    have p0 := cell_of_blk kP 0
    have p1 := cell_of_blk kP 1
    have q0 := cell_of_blk kQ 0
    have q1 := cell_of_blk kQ 1
    simp at p0 p1 q0 q1
    have HP := Lib.hid kP
    have HQ' := Lib.hid kQ
    have g1 : w.heap.size + 1 ∉ foot b s1 := HM1.out.far (foot_lt H.out (by omega)) (by simp)
    have HG1 := Lib.hid g1
    clear g1
    have HO := Lib.hid kO
    have HMW := Lib.hid hMW
    have HG2 := Lib.hid g2
    have HG0 := Lib.hid g0
    have HIN := Lib.hid hin
    have hp2 := pow1 m
    have hx : 0 ≤ px + hf (lev s1.σ r') ∧ px + hf (lev s1.σ r') < 2 ^ (m + 1) := by rw [hm, hf_nat] at hin ⊢; omega
    have hy : 0 ≤ py + hf (lev s1.σ r') ∧ py + hf (lev s1.σ r') < 2 ^ (m + 1) := by rw [hm, hf_nat] at hin ⊢; omega
    have HX := Lib.hid hx
    have HY := Lib.hid hy
    have HL := Lib.hid hm
    have hr4 : r' < 4294967296 := by have := hMW.at'.len.2; omega
    clear hx hy hp2 hin kP kQ kO hMW g0 g2 l0 hWe hbase e0 e1 f0 f1 hσ hmo hR hlow h3 hr1 hm
    go_cut [9, 8] (fun u9 u8 wc => PutMid w b s r' (setC s1.σ s1.most (lev s1.σ r').toNat r' (px + hf (lev s1.σ r')) (py + hf (lev s1.σ r')) alive) u9 u8 wc)
    case first =>
      go_region_held3 (fun w' => w'.cell? ⟨w.heap.size, 0, none⟩ = some (.pointer (some ⟨b, 0, none⟩)) ∧ w'.cell? ⟨w.heap.size, 1, none⟩ = some (.int .u32 r') ∧
          w'.cell? ⟨w.heap.size + 1, 0, none⟩ = some (.int .i64 px) ∧ w'.cell? ⟨w.heap.size + 1, 1, none⟩ = some (.int .i64 py))
        (first | go_keep | exact ⟨v0, v1, v2, v3⟩ | exact ⟨z0, z1, z2, z3⟩)
        (first
        | (go_at_call 88; refine (start_st _ b r' s1 px py (HMW.out.at'.below ((Below.refl _ _).drew)) hr4 HIN.out.1 HIN.out.2).mono ?_; rintro e w4 ⟨rfl, hb4⟩
           have kz := kept hb4 HP.out
           have kq := kept hb4 HQ'.out
           have z0 := cell_of_blk kz 0
           have z1 := cell_of_blk kz 1
           have z2 := cell_of_blk kq 0
           have z3 := cell_of_blk kq 1
           simp at z0 z1 z2 z3
           have HKZ := Lib.hid kz
           have HKQ := Lib.hid kq
           have HB4 := Lib.hid hb4
           clear hb4 kz kq
           unfold pt)
        | (go_at_call 92; refine (set_st alive (m + 1) _ b r' s1 _ _ ((HMW.out.at'.below ((Below.refl _ _).drew)).below HB4.out) HL.out HX.out HY.out).mono ?_; rintro e w5 ⟨rfl, s5, hm5⟩
           have kz := hm5.blk' HG0.out HKZ.out
           have kq := hm5.blk' HG1.out HKQ.out
           have v0 := cell_of_blk kz 0
           have v1 := cell_of_blk kz 1
           have v2 := cell_of_blk kq 0
           have v3 := cell_of_blk kq 1
           simp at v0 v1 v2 v3
           have HM5 := Lib.hid hm5
           clear hm5 kz kq))
      all_goals (go_wp2_with fail)
      all_goals go_meet
      all_goals
        have e : (lev s1.σ r').toNat = m + 1 := by rw [HL.out]; rfl
        rw [e]
        have hW4 : Made w w4 b s s1.σ s1 := (HMW.out.below ((Below.refl _ _).drew)).below HB4.out
        exact ⟨s5, hW4.trans HM5.out, rfl, rfl, HM5.out.blk' HG0.out HKZ.out, HM5.out.blk' HG2.out (kept HB4.out HO.out), HM5.out.far HG2.out (Array.getElem?_eq_some_iff.1 (kept HB4.out HO.out)).1⟩
    case rest =>
      obtain ⟨s5, hm5, rfl, rfl, kP, kO, g5⟩ := hcut
      have HM5 := Lib.hid hm5
      have HG5 := Lib.hid g5
      generalize setC s1.σ s1.most (lev s1.σ r').toNat r' (px + hf (lev s1.σ r')) (py + hf (lev s1.σ r')) alive = q at HFin HM5 ⊢
      have c0 := cell_of_blk kP 0
      have o0 := cell_of_blk kO 0
      have o1 := cell_of_blk kO 1
      have f0 := free_of_blk kO 0
      have f1 := free_of_blk kO 1
      simp at c0 o0 o1
      clear hm5 g5 kP kO p0 p1 q0 q1
      by_cases hz : q.2.2 = 0
      · have he : errv q.2.2 = .nilIface := by simp [errv, hz]
        rw [he]
        have HZ' := Lib.hid hz
        clear hz he
        go_wp2_with go_in
        refine bodyPost_ret (v := .tuple #[pval b q.2.1, .nilIface]) (by simp [results, Try.results37, go_sem, o0, o1, pval]) rfl ⟨by rw [HFin.out]; simp only [pres, errv]; rw [if_pos HZ'.out, if_pos HZ'.out], s5, ?_⟩
        rw [HFin.out]
        exact HM5.out.only' (only_set2 _ _ _ _) (by omega) HG5.out
      · have he : errv q.2.2 = .iface 67 (.int .i64 q.2.2) := by simp [errv, hz]
        rw [he]
        have HZ' := Lib.hid hz
        clear hz he
        go_wp2_with go_in
        refine bodyPost_ret (v := .tuple #[noP, .iface 67 (.int .i64 q.2.2)]) (by simp [results, Try.results37, go_sem, o0, o1, noP]) rfl ⟨by rw [HFin.out]; simp only [pres, errv]; rw [if_neg HZ'.out, if_neg HZ'.out], s5, ?_⟩
        rw [HFin.out]
        exact HM5.out.only' (only_set2 _ _ _ _) (by omega) HG5.out
  · have HZ := Lib.hid hz
    have hfin : setP s.σ s.most r px py alive = ((reach s.most px py 62 s.σ r).1, 0, (reach s.most px py 62 s.σ r).2.2) := by
      unfold setP bnd; rw [if_neg hz]
    have HFin := Lib.hid hfin
    clear hz hfin RO
    go_enter Try.func37, Try.ntmps37
    go_wp2_with (
       go_at_call 91
       refine (reach_no _ b r s px py HS.out HSM.out H3.out HQ.out HZ.out).mono ?_
       rintro e w1 ⟨rfl, s1, hm1⟩
       have k0 := hm1.blk' (foot_lt H.out (by omega)) (blk3_0 w _ _ _)
       have k2 := hm1.blk' (foot_lt H.out (by omega)) (blk3_2 w _ _ _)
       have e0 := cell_of_blk k0 0
       have e1 := cell_of_blk k0 1
       have o0 := cell_of_blk k2 0
       have o1 := cell_of_blk k2 1
       simp at e0 e1 o0 o1
       have f0 := free_of_blk k0 0
       have f1 := free_of_blk k0 1
       have f2 := free_of_blk k2 0
       have f3 := free_of_blk k2 1
       have HM1 := Lib.hid hm1
       clear hm1 k0 k2)
    refine bodyPost_ret (v := .tuple #[noP, .iface 67 (.int .i64 (reach s.most px py 62 s.σ r).2.2)]) (by simp [results, Try.results37, go_sem, o0, o1, noP]) rfl ⟨by rw [HFin.out]; simp only [pres, errv]; rw [if_neg HZ.out, if_neg HZ.out], s1, ?_⟩
    rw [HFin.out]
    have hbase := HM1.out.behind HB.out
    have m1 := hbase.only' (only_set2 w1 w.heap.size (.pointer none) (.int .u32 0)) (Nat.le_refl _) (HM1.out.far (foot_lt H.out (by omega)) (by simp; omega))
    exact m1.only' (only_set2 _ _ _ _) (by omega) (HM1.out.far (foot_lt H.out (by omega)) (by simp))
end Go.Proofs.Ytkelfgigigcnjaa
