/-
  It is proved that 'belvederelaw07.QuadRoom' returns true whatever the room and the point are, and that both read behind the call as they did. No condition.
-/
import Derived.Test.YtkelfgigigcnjaaQdH
import Derived.Test.YtkelfgigigcnjaaRow
import Derived.Lib.SmallJoins
namespace Go.Proofs.Ytkelfgigigcnjaa
open Go.RowKit Go.Bv

theorem live1 : (emp [nd0, nd1] 900 3).2.2 = 0 := by decide +kernel
theorem live2 : (setP (emp [nd0, nd1] 900 3).1 900 (emp [nd0, nd1] 900 3).2.1 5 (-9) true).2.2 = 0 := by decide +kernel
theorem live3 : lev (setP (emp [nd0, nd1] 900 3).1 900 (emp [nd0, nd1] 900 3).2.1 5 (-9) true).1 (setP (emp [nd0, nd1] 900 3).1 900 (emp [nd0, nd1] 900 3).2.1 5 (-9) true).2.1 = 5 := by decide +kernel
theorem live4 : get (setP (emp [nd0, nd1] 900 3).1 900 (emp [nd0, nd1] 900 3).2.1 5 (-9) true).1 (setP (emp [nd0, nd1] 900 3).1 900 (emp [nd0, nd1] 900 3).2.1 5 (-9) true).2.1 5 (-9) = true := by decide +kernel
theorem live5 : get (setP (emp [nd0, nd1] 900 3).1 900 (emp [nd0, nd1] 900 3).2.1 5 (-9) true).1 (setP (emp [nd0, nd1] 900 3).1 900 (emp [nd0, nd1] 900 3).2.1 5 (-9) true).2.1 5 (-8) = false := by decide +kernel
theorem live6 : lev (setP (emp [nd0, nd1] 900 3).1 900 (emp [nd0, nd1] 900 3).2.1 5 (-9) true).1 (emp [nd0, nd1] 900 3).2.1 = 3 := by decide +kernel
theorem live7 : lev (emp [nd0, nd1] 900 3).1 (emp [nd0, nd1] 900 3).2.1 = 3 := by decide +kernel

set_option maxRecDepth 100000 in
set_option maxHeartbeats 1000000 in
theorem lives_q (w : World) : Calls Try.prog 34 #[] w fun e w' => e = .returned (.bool true) ∧ Below w.heap.size w w' := by
  go_enter Try.func34, Try.ntmps34
  go_wp2_with fail
  refine (new_st _ 900 (by omega) (by omega)).mono ?_
  rintro e w1 ⟨b, s, rfl, h1, hσ, hm, hb, l1, l2, l3⟩
  have H1 : Hid (Held w.heap.size w w1 b s) := ⟨h1, hb, hb.size, by intro k hk; simp [foot] at hk; omega⟩
  have HSG := Lib.hid hσ
  have HM := Lib.hid hm
  clear h1 hσ hm hb l1 l2 l3
  go_wp2_with fail
  refine (qnew_ok _ b s H1.out.at' (by rw [HSG.out, HM.out]; exact live1)).mono ?_
  rintro e w2 ⟨rfl, s2, hm2⟩
  rw [HSG.out, HM.out] at hm2 ⊢
  have hg2 : Grew [nd0, nd1] (emp [nd0, nd1] 900 3).1 := (emp_ok wf0 sm0 3 (by omega)).1
  have hσ2 := hm2.σ
  have hmo2 : s2.most = 900 := hm2.most.trans HM.out
  have H2 := Lib.hid (H1.out.step hm2)
  have hsm2 : Sm s2.σ := by rw [hσ2]; exact hg2.sm
  have l2 := live2
  have l3 := live3
  have l4 := live4
  have l5 := live5
  have l6 := live6
  have l7 := live7
  rw [← hσ2] at l2 l3 l4 l5 l6 l7
  generalize (emp [nd0, nd1] 900 3).2.1 = r at *
  rw [← hmo2] at l2 l3 l4 l5 l6
  have L2 := Lib.hid l2
  have L3 := Lib.hid l3
  have L4 := Lib.hid l4
  have L5 := Lib.hid l5
  have L6 := Lib.hid l6
  have L7 := Lib.hid l7
  have HS2 := Lib.hid hsm2
  clear l2 l3 l4 l5 l6 l7 hsm2 hg2 hm2 hσ2 hmo2 HSG HM
  go_wp2_with fail
  have HW2 := Lib.hid (H2.out.grow (below_a1 w2 (.cells #[.pointer (some ⟨b, 0, none⟩), .int .u32 r] 51)))
  refine (qset_ok _ b r s2 5 (-9) true HW2.out.at' HS2.out (by rw [L7.out]; decide) (by decide) L2.out).mono ?_
  rintro e w3 ⟨rfl, s3, hm3⟩
  have k3 := hm3.blk' (foot_lt H2.out.at' (Nat.le_refl _)) (blk1_0 w2 _)
  have l3 : w2.heap.size < w3.heap.size := (Array.getElem?_eq_some_iff.1 k3).1
  have c0 := cell_of_blk k3 0
  have c1 := cell_of_blk k3 1
  simp at c0 c1
  have H3 := Lib.hid (HW2.out.step hm3)
  have L3 := L3.out
  have L4 := L4.out
  have L5 := L5.out
  have L6 := L6.out
  rw [← hm3.σ] at L3 L4 L5 L6
  generalize (setP s2.σ s2.most r 5 (-9) true).2.1 = r2 at *
  have M3 := Lib.hid L3
  have M4 := Lib.hid L4
  have M5 := Lib.hid L5
  have M6 := Lib.hid L6
  have HK3 := Lib.hid k3
  clear L3 L4 L5 L6 k3 hm3
  go_wp2_with fail
  have HW3 := Lib.hid (H3.out.grow (below_a1 w3 (.cells #[.pointer (some ⟨b, 0, none⟩), .int .u32 r2] 51)))
  refine (level_at _ b r2 s3 5 HW3.out.at' (lt_of_lev (by rw [M3.out]; decide)) M3.out).mono ?_
  rintro e w4 ⟨rfl, rfl⟩
  go_wp2_with fail
  refine (get_at _ b r2 s3 5 (-9) true HW3.out.at' (by rw [M3.out]; decide) M4.out).mono ?_
  rintro e w4 ⟨rfl, hb4⟩
  have k4 := kept hb4 (blk1_0 w3 _)
  have k5 := kept hb4 ((heap_alloc_old _ _ l3).trans HK3.out)
  have z0 := cell_of_blk k4 0
  have z1 := cell_of_blk k4 1
  simp at z0 z1
  have HK4 := Lib.hid k4
  have HK5 := Lib.hid k5
  have H4 := Lib.hid (HW3.out.grow hb4)
  clear hb4 k4 k5
  go_wp2_with fail
  refine (get_at _ b r2 s3 5 (-8) false H4.out.at' (by rw [M3.out]; decide) M5.out).mono ?_
  rintro e w5 ⟨rfl, hb5⟩
  have k5 := kept hb5 HK5.out
  have y0 := cell_of_blk k5 0
  have y1 := cell_of_blk k5 1
  simp at y0 y1
  have H5 := Lib.hid (H4.out.grow hb5)
  clear hb5 k5
  go_wp2_with fail
  refine (level_at _ b r s3 3 H5.out.at' (lt_of_lev (by rw [M6.out]; decide)) M6.out).mono ?_
  rintro e w6 ⟨rfl, rfl⟩
  go_wp2
  go_ret
  exact ⟨rfl, H5.out.below⟩

theorem pl_eq (w : World) : (binOp .eql 51 (.agg #[.pointer none, .int .u32 0]) (.agg #[.pointer none, .int .u32 0])).run Try.prog w = .ok (.bool true) w := by kernel_rfl

/-- What QuadRoom rests on. -/
structure RoomOk (q : List Nd × Nat × Nat) (r : Nat) (px py : Int) : Prop where
  old : get q.1 r px py = false
  cold : cnt q.1 r = 0
  lold : 3 ≤ lev q.1 r
  err : q.2.2 = 0 ∨ q.2.2 = 7
  new : q.2.2 = 0 → get q.1 q.2.1 px py = true ∧ cnt q.1 q.2.1 = 1 ∧ 1 ≤ lev q.1 q.2.1
theorem room_ok {most : Nat} {px py : Int} (hq : right px py = true) (hz : (emp [nd0, nd1] most 3).2.2 = 0) :
    Sm (emp [nd0, nd1] most 3).1 ∧ lev (emp [nd0, nd1] most 3).1 (emp [nd0, nd1] most 3).2.1 = 3 ∧
    RoomOk (setP (emp [nd0, nd1] most 3).1 most (emp [nd0, nd1] most 3).2.1 px py true) (emp [nd0, nd1] most 3).2.1 px py := by
  have hqq := (right_iff px py).1 hq
  obtain ⟨G, E⟩ := emp_ok (most := most) wf0 sm0 3 (by omega)
  generalize emp [nd0, nd1] most 3 = e at *
  rcases E with ⟨_, hl, ht⟩ | h7
  · refine ⟨G.sm, hl, ?_⟩
    have P := setP_ok (most := most) (px := px) (py := py) (by omega) (by omega) true e.2.1 G.wf G.sm (by rw [hl]; decide)
    generalize setP e.1 most e.2.1 px py true = q at P ⊢
    obtain ⟨G2, P⟩ := P
    have hr : e.2.1 < e.1.length := lt_of_lev (by rw [hl]; decide)
    have hold : get e.1 e.2.1 px py = false := by
      unfold get
      rw [hl]
      simp only [Int.toNat_natCast, dead_of_tot ht, Bool.and_false]
    have hc : cnt e.1 e.2.1 = 0 := by rw [cnt_tot G.wf G.sm 3 _ hl, ht]; rfl
    refine ⟨by rw [G2.ext.gt G.wf hr]; exact hold, by rw [G2.ext.ct hr]; exact hc, by rw [G2.ext.lv hr, hl]; decide, ?_, ?_⟩
    · rcases P with ⟨h, _⟩ | h
      · exact .inl h
      · exact .inr h
    · intro hz2
      rcases P with ⟨_, P⟩ | h7
      · have hlow := P.low
        rw [hl] at hlow
        refine ⟨by rw [P.gt]; simp, ?_, by omega⟩
        have t := P.tt
        rw [hold, hl] at t
        simp only [Int.toNat_natCast, ht] at t
        have hn : lev q.1 q.2.1 = ((lev q.1 q.2.1).toNat : Nat) := by omega
        rw [cnt_tot G2.wf G2.sm _ _ hn]
        simp at t
        omega
      · omega
  · omega

set_option maxRecDepth 100000 in
set_option maxHeartbeats 1000000 in
theorem qroom_st (w : World) (room px py : Int) :
    Calls Try.prog 5 #[.int .i64 room, .agg #[.int .i64 px, .int .i64 py]] w fun e w' => e = .returned (.bool true) ∧ Below w.heap.size w w' := by
  obtain ⟨mst, hmst, hw1, hw2, hw3⟩ : ∃ n : Nat, n < 300 ∧ (IntKind.u64.wrap room).tmod 300 = n ∧ IntKind.i64.wrap (n : Int) = n ∧ IntKind.i64.wrap (2 + (n : Int)) = (2 + n : Nat) := by
    have h0 : 0 ≤ IntKind.u64.wrap room := by rw [IntKind.wrap_u64]; omega
    refine ⟨((IntKind.u64.wrap room).tmod 300).toNat, ?_, ?_, ?_, ?_⟩
    · rw [Int.tmod_eq_emod_of_nonneg h0]; omega
    · rw [Int.tmod_eq_emod_of_nonneg h0]; omega
    · rw [IntWalk.i64_in _ (by rw [Int.tmod_eq_emod_of_nonneg h0]; omega)]
    · rw [IntWalk.i64_in _ (by rw [Int.tmod_eq_emod_of_nonneg h0]; omega)]; omega
  by_cases hq : right px py = true
  · have HQ := Lib.hid hq
    clear hq
    go_enter Try.func5, Try.ntmps5
    go_wp2_with (first
      | (go_at_call 34; refine (lives_q _).mono ?_; rintro e w1 ⟨rfl, hb1⟩
         have k1 := kept hb1 (blk1_0 w _)
         have c0 := cell_of_blk k1 0
         have c1 := cell_of_blk k1 1
         simp at c0 c1
         have HB1 := Lib.hid hb1
         have HK1 := Lib.hid k1
         clear hb1 k1)
      | (go_at_call 24; refine (right_st _ _ _).mono ?_; rintro e w2 ⟨rfl, hb2⟩; rw [HQ.out]))
    have hb2' := below_then (below_then (below_a1 w _) HB1.out) hb2
    have k2 := kept hb2 HK1.out
    have HB2 := Lib.hid hb2'
    have HK2 := Lib.hid k2
    clear hb2 hb2' k2 c0 c1
    rw [show (2 : Int) + (mst : Int) = ((2 + mst : Nat) : Int) by omega]
    refine (new_st _ (2 + mst) (by omega) (by omega)).mono ?_
    rintro e w3 ⟨b, s, rfl, h1, hσ, hm, hb, l1, l2, l3⟩
    have H1 : Hid (Held w.heap.size w w3 b s) := by
      have hs := HB2.out.size
      exact ⟨h1, HB2.out.trans (hb.mono hs), by have := hb.size; omega, by intro k hk; simp [foot] at hk; omega⟩
    have HSG := Lib.hid hσ
    have HM := Lib.hid hm
    have k3 := kept hb HK2.out
    have HK3 := Lib.hid k3
    have l0 : w.heap.size < w2.heap.size := (Array.getElem?_eq_some_iff.1 HK2.out).1
    have hf : w.heap.size ∉ foot b s := by simp [foot]; omega
    have HF := Lib.hid hf
    clear h1 hσ hm hb l1 l2 l3 hmst hw1 hw2 hw3 k3 l0 hf
    have EO := emp_ok (most := 2 + mst) wf0 sm0 3 (by omega)
    by_cases hz : (emp [nd0, nd1] (2 + mst) 3).2.2 = 0
    · have RO := room_ok HQ.out hz
      have HEO := Lib.hid EO
      have HRO := Lib.hid RO
      have HZ := Lib.hid hz
      clear EO RO hz
      go_wp2_with fail
      refine (qnew_ok _ b s H1.out.at' (by rw [HSG.out, HM.out]; exact HZ.out)).mono ?_
      rintro e w4 ⟨rfl, s4, hm4⟩
      rw [HSG.out, HM.out] at hm4 ⊢
      have hσ4 := hm4.σ
      have hmo4 : s4.most = 2 + mst := hm4.most.trans HM.out
      have H4 := Lib.hid (H1.out.step hm4)
      have k4 := hm4.blk' HF.out HK3.out
      have f4 := hm4.far HF.out (Array.getElem?_eq_some_iff.1 HK3.out).1
      have hro := HRO.out
      rw [← hσ4] at hro
      generalize (emp [nd0, nd1] (2 + mst) 3).2.1 = r at *
      rw [← hmo4] at hro
      obtain ⟨hsm, hl3, hro⟩ := hro
      have HSM := Lib.hid hsm
      have HL3 := Lib.hid hl3
      have HR := Lib.hid hro
      have c0 := cell_of_blk k4 0
      have c1 := cell_of_blk k4 1
      simp at c0 c1
      have l4 : w.heap.size < w4.heap.size := (Array.getElem?_eq_some_iff.1 k4).1
      have HK4 := Lib.hid k4
      have HF4 := Lib.hid f4
      clear hm4 k4 f4 hσ4 hmo4 hsm hl3 hro HEO HRO HZ HSG HM
      go_wp2_with fail
      have HW4 := Lib.hid (H4.out.grow (below_a1 w4 (.cells #[.pointer (some ⟨b, 0, none⟩), .int .u32 r] 51)))
      have HQ4 : Hid ((w4.alloc (.cells #[.pointer (some ⟨b, 0, none⟩), .int .u32 r] 51)).heap[w.heap.size]? = _) := (heap_alloc_old _ _ l4).trans HK4.out
      by_cases hz : (setP s4.σ s4.most r px py true).2.2 = 0
      · have HZ := Lib.hid hz
        clear hz
        refine (qset_ok _ b r s4 px py true HW4.out.at' HSM.out (by rw [HL3.out]; decide) HQ.out HZ.out).mono ?_
        rintro e w5 ⟨rfl, s5, hm5⟩
        have kq := hm5.blk' HF4.out HQ4.out
        have kp := hm5.blk' (foot_lt H4.out.at' (Nat.le_refl _)) (blk1_0 w4 _)
        have H5 := Lib.hid (HW4.out.step hm5)
        have hro := HR.out
        have hn := hro.new HZ.out
        have ho := hro.old
        have hl := hro.lold
        rw [← hm5.σ] at hn ho hl
        generalize (setP s4.σ s4.most r px py true).2.1 = r5 at *
        obtain ⟨hn1, hn2, hn3⟩ := hn
        have N1 := Lib.hid hn1
        have N2 := Lib.hid hn2
        have N3 := Lib.hid hn3
        have NO := Lib.hid ho
        have NL := Lib.hid hl
        have q0 := cell_of_blk kq 0
        have q1 := cell_of_blk kq 1
        have p0 := cell_of_blk kp 0
        have p1 := cell_of_blk kp 1
        simp at q0 q1 p0 p1
        have l5 : w.heap.size < w5.heap.size := (Array.getElem?_eq_some_iff.1 kq).1
        have l6 : w4.heap.size < w5.heap.size := (Array.getElem?_eq_some_iff.1 kp).1
        have HKQ := Lib.hid kq
        have HKP := Lib.hid kp
        clear hro hn1 hn2 hn3 ho hl kq kp hm5 c0 c1
        go_wp2_with fail
        have HW5 := Lib.hid (H5.out.grow (below_a1 w5 (.cells #[.pointer (some ⟨b, 0, none⟩), .int .u32 r5] 51)))
        refine (get_at _ b r5 s5 px py true HW5.out.at' N3.out N1.out).mono ?_
        rintro e w6 ⟨rfl, hb6⟩
        have kq := kept hb6 ((heap_alloc_old _ _ l5).trans HKQ.out)
        have kp := kept hb6 ((heap_alloc_old _ _ l6).trans HKP.out)
        have kn := kept hb6 (blk1_0 w5 _)
        have q0' := cell_of_blk kq 0
        have q1' := cell_of_blk kq 1
        have p0' := cell_of_blk kp 0
        have p1' := cell_of_blk kp 1
        have n0 := cell_of_blk kn 0
        have n1 := cell_of_blk kn 1
        simp at q0' q1' p0' p1' n0 n1
        have H6 := Lib.hid (HW5.out.grow hb6)
        clear hb6 kq kp kn q0 q1 p0 p1
        go_wp2_with fail
        refine (count_at _ b r5 s5 1 H6.out.at' (lt_of_lev (by have := N3.out; omega)) N2.out).mono ?_
        rintro e w7 ⟨rfl, rfl⟩
        go_wp2_with fail
        refine (get_at _ b r s5 px py false H6.out.at' (by have := NL.out; omega) NO.out).mono ?_
        rintro e w7 ⟨rfl, hb7⟩
        have H7 := Lib.hid (H6.out.grow hb7)
        clear hb7
        go_wp2
        go_ret
        exact ⟨rfl, H7.out.below⟩
      · have h7 : (setP s4.σ s4.most r px py true).2.2 = 7 := by
          rcases HR.out.err with h | h
          · exact absurd h hz
          · exact h
        have HZ := Lib.hid hz
        have H7 := Lib.hid h7
        clear hz h7
        refine (qset_err _ b r s4 px py true HW4.out.at' HSM.out (by rw [HL3.out]; decide) HQ.out HZ.out).mono ?_
        rintro e w5 ⟨rfl, s5, hm5⟩
        rw [H7.out]
        have kq := hm5.blk' HF4.out HQ4.out
        have kp := hm5.blk' (foot_lt H4.out.at' (Nat.le_refl _)) (blk1_0 w4 _)
        have H5 := Lib.hid (HW4.out.step hm5)
        have hro := HR.out
        have ho := hro.old
        have hc := hro.cold
        have hl := hro.lold
        rw [← hm5.σ] at ho hc hl
        have NO := Lib.hid ho
        have NC := Lib.hid hc
        have NL := Lib.hid hl
        have q0 := cell_of_blk kq 0
        have q1 := cell_of_blk kq 1
        have p0 := cell_of_blk kp 0
        have p1 := cell_of_blk kp 1
        simp at q0 q1 p0 p1
        have l5 : w.heap.size < w5.heap.size := (Array.getElem?_eq_some_iff.1 kq).1
        have l6 : w4.heap.size < w5.heap.size := (Array.getElem?_eq_some_iff.1 kp).1
        have HKQ := Lib.hid kq
        have HKP := Lib.hid kp
        clear hro ho hc hl kq kp hm5 c0 c1
        go_wp2_with fail
        refine (fis_new 7 7 (w5.heap.size + 1) (w5.alloc _) (by decide) (by simp)).mono ?_
        rintro e w6 ⟨rfl, rfl⟩
        have hpe := pl_eq
        go_wp2_with fail
        have HW5 := Lib.hid (H5.out.grow (below_a2 w5 (.cells #[.pointer none, .int .u32 0] 51) (.cells #[.int .i64 7] 67)))
        refine (get_at _ b r s5 px py false HW5.out.at' (by have := NL.out; omega) NO.out).mono ?_
        rintro e w6 ⟨rfl, hb6⟩
        have kp := kept hb6 (((heap_alloc_old _ _ (by simp; omega)).trans (heap_alloc_old _ _ l6)).trans HKP.out)
        have p0' := cell_of_blk kp 0
        have p1' := cell_of_blk kp 1
        simp at p0' p1'
        have H6 := Lib.hid (HW5.out.grow hb6)
        clear hb6 kp
        go_wp2_with fail
        refine (count_at _ b r s5 0 H6.out.at' (lt_of_lev (by have := NL.out; omega)) NC.out).mono ?_
        rintro e w7 ⟨rfl, rfl⟩
        go_wp2
        go_ret
        exact ⟨rfl, H6.out.below⟩
    · have h7 : (emp [nd0, nd1] (2 + mst) 3).2.2 = 7 := by
        rcases EO.2 with ⟨h, _⟩ | h
        · exact absurd h hz
        · exact h
      have HZ := Lib.hid hz
      have H7 := Lib.hid h7
      clear EO hz h7
      go_wp2_with fail
      refine (qnew_err _ b s H1.out.at' (by rw [HSG.out, HM.out]; exact HZ.out)).mono ?_
      rintro e w4 ⟨rfl, s4, hm4⟩
      rw [HSG.out, HM.out] at hm4 ⊢
      rw [H7.out]
      have H4 := Lib.hid (H1.out.step hm4)
      clear hm4
      go_wp2_with fail
      refine (fis_new 7 7 (w4.heap.size + 1) (w4.alloc _) (by decide) (by simp)).mono ?_
      rintro e w5 ⟨rfl, rfl⟩
      have hpe := pl_eq
      go_wp2_with fail
      go_ret
      exact ⟨rfl, (H4.out.grow (below_a2 w4 _ _)).below⟩
  · have hqf : right px py = false := by simpa using hq
    have HQ := Lib.hid hqf
    clear hq hqf
    go_enter Try.func5, Try.ntmps5
    go_wp2_with fail
    refine (lives_q _).mono ?_
    rintro e w1 ⟨rfl, hb1⟩
    have k1 := kept hb1 (blk1_0 w _)
    have c0 := cell_of_blk k1 0
    have c1 := cell_of_blk k1 1
    simp at c0 c1
    have HB1 := Lib.hid hb1
    clear hb1 k1
    go_wp2_with fail
    refine (right_st _ _ _).mono ?_
    rintro e w2 ⟨rfl, hb2⟩
    rw [HQ.out]
    have HB2 := Lib.hid (below_then (below_then (below_a1 w _) HB1.out) hb2)
    clear hb2
    go_wp2_with fail
    refine (lives_q _).mono ?_
    rintro e w3 ⟨rfl, hb3⟩
    have HB3 := Lib.hid (below_then HB2.out hb3)
    clear hb3
    go_wp2
    go_ret
    exact ⟨rfl, HB3.out⟩

open Go.ChangeShapes Go.WideShapes Go.ChangeAt Go.Joins
theorem Try.cellsPt : Try.prog.cellsOf 45 = 2 := by kernel_rfl

set_option maxRecDepth 100000 in
theorem quadRoom_lifted (os : Os) (started : os.Started) (H : Type) (enc : TypeId × Value → H) :
    ReturnsInHanded {} Try.checked os 5 .any (Rows.quadRoomSpec.pre6 enc Try.prog Try.f5 Rows.quadRoomRow.domain false) (Rows.quadRoomSpec.post enc Try.prog Try.f5 false true false false) := by
  refine returnsInHanded_of_change (C := Try.checked) own started (by kernel_rfl) Try.func5
    (ChangeSpec.witness6 (enc := enc) (C := Try.checked) false ⟨#[], #[.int .i64 0, .agg #[.int .i64 0, .int .i64 0]], []⟩ 8 (by kernel_rfl) (by kernel_rfl) (by kernel_rfl) (by kernel_rfl)) ?_
  intro W base args ds gs before hval0 hW hcnd _
  have hval : ∀ (j : Nat) t v, Try.f5.params[j]? = some t → args[j]? = some v → Value.okWide Try.prog W .any base t v := hval0
  have hW' := hW
  obtain ⟨p, q, hA0, hV, rfl, hfz, hnd⟩ := hW
  have hA : DataW.TrodAll enc Try.prog W 0 (fun _ => true) true Try.f5.params.toList args.toList ds p := hA0
  rw [Try.params5] at hA hval
  have hK := hA
  obtain ⟨v0, vs0, d0, ds0, p0, q0, hargs, rfl, rfl, h0, r0⟩ := trodAll_cons hA
  obtain ⟨v1, vs1, d1, ds1, p1, q1, rfl, rfl, rfl, h1, r1⟩ := trodAll_cons r0
  obtain ⟨rfl, rfl, rfl⟩ := trodAll_nil r1
  obtain rfl : args = #[v0, v1] := by cases args; simp_all
  obtain ⟨rfl, rfl⟩ := trodVars_none hV
  obtain ⟨a0, rfl, rfl, rfl, w0⟩ := open_int Try.underlying3 (hval 0 3 v0 rfl rfl) h0
  obtain ⟨c0, c1, y0, y1, m, rfl, rfl, rfl, hy0, hy1⟩ := open_agg2 Try.underlying45 (by kernel_rfl) Try.cellsPt (hval 1 45 v1 rfl rfl) h1
  obtain ⟨a, e0, rfl, wa⟩ := DataW.trod_int Try.underlying2 hy0
  obtain ⟨b, e1, rfl, wb⟩ := DataW.trod_int Try.underlying2 hy1
  simp at e0 e1
  subst e0 e1
  clear hA0 hval0
  simp only [List.append_nil] at hW'
  refine (qroom_st W a0 a b).mono fun e W' ⟨he, hb⟩ => ?_
  subst he
  exact ⟨_, rfl, _, _, _, [], _, [], hW', trodAll_mk1 (shut_bool Try.underlying4 _), trodAll_below laidOut hb _ _ _ _ (by decide +kernel) hK (fun x hx => by simpa using hW'.lt x hx), rfl, hb.frame _, fun h => by cases h⟩

theorem quadRoom_holds : Rows.QuadRoomSaid :=
  OpenClaim.holds_of_wide 5 Try.f5 rfl rfl rfl rfl rfl rfl rfl ⟨rfl, rfl, rfl, rfl, rfl⟩ rfl rfl rfl rfl rfl (by kernel_rfl) Try.func5 (by kernel_rfl)
    (of_decide_eq_true (by kernel_rfl)) (by unfold Func.isWrapper; first | (rw [if_pos (by decide +kernel)]; kernel_rfl) | (rw [if_neg (by decide +kernel)]; exact ⟨rfl, rfl⟩))
    (fun os started H enc _ => quadRoom_lifted os started H enc)
#print axioms quadRoom_holds
end Go.Proofs.Ytkelfgigigcnjaa
