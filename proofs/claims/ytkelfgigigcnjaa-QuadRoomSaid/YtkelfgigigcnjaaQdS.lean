/-
  quad's set: a square with a cell that is alive, or dead.
-/
import Derived.Test.YtkelfgigigcnjaaQdG
namespace Go.Proofs.Ytkelfgigigcnjaa
open Go.RowKit Go.Bv

/-- A store into a block of the call's own, behind a call that may make squares. -/
theorem Made.poke {w wN w1 : World} {b : Nat} {s s1 : SV} {σ : List Nd} (hs : StoreAt w b s) (hb : Below w.heap.size w wN) (h : Made wN w1 b s σ s1) {K : Nat} (hK : w.heap.size ≤ K) (hK2 : K < wN.heap.size) (i : Nat) (u : Value) :
    Made w (w1.setCell ⟨K, i, none⟩ u) b s σ s1 := by
  have h0 := h.behind hb
  have l1 := hs.lt
  have l2 := hs.nlt
  have l3 := hs.tlt
  have hf : ∀ k ∈ foot b s1, k ∉ [K] := by
    intro k hk hm
    simp only [foot, List.mem_cons, List.not_mem_nil, or_false] at hk hm
    subst hm
    rcases hk with e | e | e
    · omega
    · rcases h.nb with e' | e' <;> omega
    · have := h.tb; omega
  have ho : Only [K] w1 (w1.setCell ⟨K, i, none⟩ u) := (Only.refl _ _).setCell (by simp) _
  exact ⟨h0.at'.kept ho hf, h0.σ, h0.most, h0.tb, h0.nb, h0.only.through ho (by intro x hx; simp at hx; omega)⟩

theorem Made.blk {w wN w1 : World} {b : Nat} {s s1 : SV} {σ : List Nd} (hs : StoreAt w b s) (h : Made wN w1 b s σ s1) {K : Nat} (hK : w.heap.size ≤ K) {o : Obj} (hb : wN.heap[K]? = some o) : w1.heap[K]? = some o := by
  have l1 := hs.lt
  have l2 := hs.nlt
  have l3 := hs.tlt
  rw [h.only.block K (Array.getElem?_eq_some_iff.1 hb).1 (by simp only [foot, List.mem_cons, List.not_mem_nil, or_false]; omega)]
  exact hb

/-- Behind the call of itself. -/
def SetMid (w : World) (b : Nat) (s : SV) (k : K4) (K : Nat) (q : List Nd × Nat × Nat) (u14 u15 : Value) (wc : World) : Prop :=
  ∃ wN s', Below w.heap.size w wN ∧ K < wN.heap.size ∧ Made wN wc b s q.1 s' ∧ u14 = .int .u32 q.2.1 ∧ u15 = errv q.2.2 ∧
    wc.heap[K]? = some (.cells #[.int .u32 k.a, .int .u32 k.b, .int .u32 k.c, .int .u32 k.d] 138 (0, 0))

set_option maxRecDepth 100000 in
set_option maxHeartbeats 4000000 in
theorem set_st (alive : Bool) : ∀ (n : Nat) (w : World) (b x : Nat) (s : SV) (px py : Int), StoreAt w b s → lev s.σ x = n → (0 ≤ px ∧ px < 2 ^ n) → (0 ≤ py ∧ py < 2 ^ n) →
    Calls Try.prog 92 #[.pointer (some ⟨b, 0, none⟩), .int .u32 x, pt px py, .bool alive] w fun e w' =>
      e = .returned (.tuple #[.int .u32 (setC s.σ s.most n x px py alive).2.1, errv (setC s.σ s.most n x px py alive).2.2]) ∧ ∃ s', Made w w' b s (setC s.σ s.most n x px py alive).1 s' := by
  intro n
  induction n with
  | zero =>
    intro w b x s px py h hl hx hy
    have H := Lib.hid h
    have hx4 : x < 4294967296 := by have := h.len.2; have := lt_of_lev (show 0 ≤ lev s.σ x by omega); omega
    have HS : Hid (StoreAt (w.alloc (.cells #[.int .i64 px, .int .i64 py] 45)) b s) := h.below (below_a1 w _)
    have hd : lev s.σ x < 1 := by omega
    clear h hx hy
    cases alive
    all_goals
      unfold pt
      go_enter Try.func92, Try.ntmps92
      go_wp2_with (first
        | (go_at_call 81; refine (of_no _ _ _ _ HS.out hx4 hd).mono ?_; rintro e w3 ⟨rfl, hb3⟩; have HB3 := Lib.hid hb3; clear hb3)
        | go_in)
      go_ret2
      refine ⟨rfl, s, Made.of_below H.out ?_⟩
      have hb := below_then (below_a1 w _) HB3.out
      exact hb.alloc hb.size _
  | succ n ih =>
    intro w b x s px py h hl hx hy
    have H := Lib.hid h
    have hx1 : x < s.σ.length := lt_of_lev (by omega)
    have hx4 : x < 4294967296 := by have := h.len.2; omega
    have hn61 : n ≤ 61 := by have := lev_le h.wf x; omega
    have hd : 1 ≤ lev s.σ x := by omega
    have HS : Hid (StoreAt (w.alloc (.cells #[.int .i64 px, .int .i64 py] 45)) b s) := h.below (below_a1 w _)
    have HX := Lib.hid hx
    have HY := Lib.hid hy
    have HL := Lib.hid hl
    have HI := Lib.hid ih
    clear h hx hy ih hl
    unfold pt
    go_enter Try.func92, Try.ntmps92
    go_wp2_with (first
      | (go_at_call 81; refine (of_yes _ _ _ _ HS.out hx4 hd).mono ?_; rintro e w3 ⟨rfl, hb3⟩; have HB3 := Lib.hid hb3; clear hb3)
      | go_in)
    obtain ⟨W, hWe⟩ : ∃ W, W = w3.alloc (.cells #[.int .u32 (kidsOf s.σ x).a, .int .u32 (kidsOf s.σ x).b, .int .u32 (kidsOf s.σ x).c, .int .u32 (kidsOf s.σ x).d] 138) := ⟨_, rfl⟩
    rw [← hWe]
    have hr3 := HB3.out.size
    have hWz : W.heap.size = w3.heap.size + 1 := by rw [hWe]; simp
    have hrW : Below (w.alloc (.cells #[.int .i64 px, .int .i64 py] 45)).heap.size (w.alloc (.cells #[.int .i64 px, .int .i64 py] 45)) W := by rw [hWe]; exact HB3.out.alloc hr3 _
    have hWb : Below w.heap.size w W := below_then (below_a1 w _) hrW
    have hK : W.heap[w3.heap.size]? = some (.cells #[.int .u32 (kidsOf s.σ x).a, .int .u32 (kidsOf s.σ x).b, .int .u32 (kidsOf s.σ x).c, .int .u32 (kidsOf s.σ x).d] 138 (0, 0)) := by rw [hWe]; exact heap_alloc_new _ _
    have hQ := kept hrW (blk1_0 w _)
    have hwK : w.heap.size ≤ w3.heap.size := by have := hr3; simp at this; omega
    have HSW : Hid (StoreAt W b s) := HS.out.below hrW
    have q0 := cell_of_blk hQ 0
    have q1 := cell_of_blk hQ 1
    simp at q0 q1
    have ltQ : w.heap.size < W.heap.size := (Array.getElem?_eq_some_iff.1 hQ).1
    have qz0 : ∀ o, (W.alloc o).cell? ⟨w.heap.size, 0, none⟩ = some (.int .i64 px) := fun o => by rw [World.cell?_alloc_old _ _ _ (by simp; omega)]; exact q0
    have qz1 : ∀ o, (W.alloc o).cell? ⟨w.heap.size, 1, none⟩ = some (.int .i64 py) := fun o => by rw [World.cell?_alloc_old _ _ _ (by simp; omega)]; exact q1
    have HWb := Lib.hid hWb
    have HQ := Lib.hid hQ
    have HK := Lib.hid hK
    have hxl' : lev s.σ x = (n + 1 : Nat) := HL.out
    have HWz := Lib.hid hWz
    have HWK := Lib.hid hwK
    clear hQ hK hrW hWb hWe hWz hr3 hwK
    go_cut [12, 13] (fun u8 u9 wc => Chose W (qi (2 ^ n) px py) (qc (2 ^ n) px) (qc (2 ^ n) py) u8 u9 wc)
    case first =>
      go_region_law (first
        | (go_simp; go_at_call 31; refine (level_st _ _ _ _ (HSW.out.below (by first | exact (Below.refl _ _).drew | exact ((Below.refl _ _).drew).alloc (by simp) _ | exact ((Below.refl _ _).alloc (by simp) _).drew)) hx4).mono ?_; rintro e w4 ⟨rfl, rfl⟩; rw [hxl'])
        | (go_simp; go_at_call 89; refine (which_st _ _ _ _ hn61 HX.out HY.out).mono ?_; rintro e w4 ⟨rfl, hb4⟩
           try (
             have kz := kept hb4 (k := W.heap.size) (o := .cells #[.int .i64 0, .int .i64 0] 45 (0, 0)) (by exact heap_alloc_new _ _)
             have z0 := cell_of_blk kz 0
             have z1 := cell_of_blk kz 1
             have y0 := free_of_blk kz 0
             have y1 := free_of_blk kz 1
             simp at z0 z1
             have HKZ := Lib.hid kz
             clear kz)
           have HB4 := Lib.hid hb4
           clear hb4
           unfold pt))
      all_goals (go_wp2_with fail)
      all_goals go_meet
      all_goals first
        | exact choseA HB4.out HKZ.out
        | exact choseB HB4.out
    case rest =>
      obtain ⟨g, rfl, rfl, hg, hWc, hgW⟩ := hcut
      have hK := kept hWc HK.out
      have hq4 := qi_lt (2 ^ n) px py
      have hqi : ((qi (2 ^ n) px py : Nat) : Int) < 4 := by omega
      have g0 := cell_of_blk hg 0
      have g1 := cell_of_blk hg 1
      have k0 : wc.cell? ⟨w3.heap.size, qi (2 ^ n) px py, none⟩ = some (.int .u32 (kth (kidsOf s.σ x) (qi (2 ^ n) px py))) := by
        rw [cell_of_blk hK]
        generalize qi (2 ^ n) px py = i at hq4
        obtain rfl | rfl | rfl | rfl : i = 0 ∨ i = 1 ∨ i = 2 ∨ i = 3 := by omega
        all_goals rfl
      simp at g0 g1
      have HK' := Lib.hid hK
      have HWC := Lib.hid hWc
      have HGW := Lib.hid hgW
      clear hK hg hWc hgW q0 q1 qz0 qz1
      go_wp2_with fail
      go_cut [14, 15] (fun u14 u15 wc' => SetMid w b s (kidsOf s.σ x) w3.heap.size (setC s.σ s.most n (kth (kidsOf s.σ x) (qi (2 ^ n) px py)) (qc (2 ^ n) px) (qc (2 ^ n) py) alive) u14 u15 wc')
      case first =>
        go_region_law (
          go_simp; go_at_call 92; refine (HI.out _ _ _ _ _ _ (HSW.out.below HWC.out.drew) (kid_ok HSW.out.wf HL.out _).2 (qc_bd HX.out) (qc_bd HY.out)).mono ?_; rintro e w5 ⟨rfl, s5, hm5⟩
          have HM5 := Lib.hid hm5
          clear hm5)
        all_goals (go_wp2_with fail)
        all_goals go_meet
        all_goals exact ⟨_, s5, (below_then HWb.out HWC.out).drew, (Array.getElem?_eq_some_iff.1 HK'.out).1, HM5.out, rfl, rfl, HM5.out.blk H.out HWK.out HK'.out⟩
      case rest =>
        obtain ⟨wN, s5, hbN, hKN, hm5, rfl, rfl, hK5⟩ := hcut
        have hq : setC s.σ s.most (n + 1) x px py alive = bnd (setC s.σ s.most n (kth (kidsOf s.σ x) (qi (2 ^ n) px py)) (qc (2 ^ n) px) (qc (2 ^ n) py) alive) fun σ' y => mk σ' s.most (withK (kidsOf s.σ x) (qi (2 ^ n) px py) y) := rfl
        have hqw := setC_wf (most := s.most) H.out.wf alive n (kth (kidsOf s.σ x) (qi (2 ^ n) px py)) (qc (2 ^ n) px) (qc (2 ^ n) py)
        generalize setC s.σ s.most n (kth (kidsOf s.σ x) (qi (2 ^ n) px py)) (qc (2 ^ n) px) (qc (2 ^ n) py) alive = q at hq hm5 hqw ⊢
        have hy4 : q.2.1 < 4294967296 := by have := hqw.2; rw [← hm5.σ] at this; have := hm5.at'.len.2; omega
        clear k0 g0 g1
        by_cases hz : q.2.2 = 0
        · have he : errv q.2.2 = .nilIface := by simp [errv, hz]
          rw [he]
          have hfin : setC s.σ s.most (n + 1) x px py alive = mk s5.σ s5.most (withK (kidsOf s.σ x) (qi (2 ^ n) px py) q.2.1) := by
            rw [hq]; simp only [bnd]; rw [if_pos hz, hm5.σ, hm5.most]
          obtain ⟨b0, b1, b2, b3⟩ := kid_bd H.out.wf H.out.len.2 HL.out
          have HZ := Lib.hid hz
          clear hq hz he hqw
          generalize qi (2 ^ n) px py = i at hq4 hqi hfin ⊢
          have HFin := Lib.hid hfin
          clear hfin
          have c0 := cell_of_blk hK5 0
          have c1 := cell_of_blk hK5 1
          have c2 := cell_of_blk hK5 2
          have c3 := cell_of_blk hK5 3
          have f0 := free_of_blk hK5 0
          have f1 := free_of_blk hK5 1
          have f2 := free_of_blk hK5 2
          have f3 := free_of_blk hK5 3
          simp at c0 c1 c2 c3
          have hpoke := Made.poke H.out hbN hm5 HWK.out hKN i (.int .u32 q.2.1)
          have HPK := Lib.hid hpoke
          clear hpoke hm5 hbN hK5
          obtain rfl | rfl | rfl | rfl : i = 0 ∨ i = 1 ∨ i = 2 ∨ i = 3 := by omega
          · go_wp2_with (first
              | (go_at_call 83; refine (make_st _ _ _ (withK (kidsOf s.σ x) 0 q.2.1) HPK.out.at' hy4 b1 b2 b3).mono ?_; rintro e w6 ⟨rfl, s6, hm6⟩)
              | go_in)
            go_ret2
            rw [HFin.out]
            exact ⟨by rfl, s6, HPK.out.trans hm6⟩
          · go_wp2_with (first
              | (go_at_call 83; refine (make_st _ _ _ (withK (kidsOf s.σ x) 1 q.2.1) HPK.out.at' b0 hy4 b2 b3).mono ?_; rintro e w6 ⟨rfl, s6, hm6⟩)
              | go_in)
            go_ret2
            rw [HFin.out]
            exact ⟨by rfl, s6, HPK.out.trans hm6⟩
          · go_wp2_with (first
              | (go_at_call 83; refine (make_st _ _ _ (withK (kidsOf s.σ x) 2 q.2.1) HPK.out.at' b0 b1 hy4 b3).mono ?_; rintro e w6 ⟨rfl, s6, hm6⟩)
              | go_in)
            go_ret2
            rw [HFin.out]
            exact ⟨by rfl, s6, HPK.out.trans hm6⟩
          · go_wp2_with (first
              | (go_at_call 83; refine (make_st _ _ _ (withK (kidsOf s.σ x) 3 q.2.1) HPK.out.at' b0 b1 b2 hy4).mono ?_; rintro e w6 ⟨rfl, s6, hm6⟩)
              | go_in)
            go_ret2
            rw [HFin.out]
            exact ⟨by rfl, s6, HPK.out.trans hm6⟩
        · have he : errv q.2.2 = .iface 67 (.int .i64 q.2.2) := by simp [errv, hz]
          rw [he]
          have hfin : setC s.σ s.most (n + 1) x px py alive = (q.1, 0, q.2.2) := by
            rw [hq]; simp only [bnd]; rw [if_neg hz]
          have HFin := Lib.hid hfin
          have HM := Lib.hid (hm5.behind hbN)
          have HE := Lib.hid he
          clear hfin hq hz he hqw hm5 hbN
          go_wp2
          go_ret2
          rw [HFin.out]
          simp only [HE.out]
          exact ⟨by rfl, s5, HM.out⟩
end Go.Proofs.Ytkelfgigigcnjaa
