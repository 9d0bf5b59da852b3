/-
  quad's Get.
-/
import Derived.Test.YtkelfgigigcnjaaQdA
namespace Go.Proofs.Ytkelfgigigcnjaa
open Go.RowKit Go.Bv

theorem set2_blk {w : World} {g : Nat} {a b a' b' : Value} {t : TypeId} (h : w.heap[g]? = some (.cells #[a, b] t (0, 0))) :
    ((w.setCell ⟨g, 0, none⟩ a').setCell ⟨g, 1, none⟩ b').heap[g]? = some (.cells #[a', b'] t (0, 0)) := by
  rw [heap_setCell_same _ _ _ _ _ _ (heap_setCell_same _ _ _ _ _ _ h)]; rfl

theorem of_no (w : World) (b : Nat) (s : SV) (x : Nat) (h : StoreAt w b s) (hx : x < 4294967296) (hl : lev s.σ x < 1) :
    Calls Try.prog 81 #[.pointer (some ⟨b, 0, none⟩), .int .u32 x] w fun e w' =>
      e = .returned (.tuple #[.agg #[.int .u32 0, .int .u32 0, .int .u32 0, .int .u32 0], .bool false]) ∧ Below w.heap.size w w' := by
  refine (of_st w b s x h hx).mono ?_
  rintro e w1 ⟨he, hb⟩
  rw [if_neg (by omega)] at he
  have : decide (1 ≤ lev s.σ x) = false := by simp; omega
  rw [this] at he
  exact ⟨he, hb⟩
theorem of_yes (w : World) (b : Nat) (s : SV) (x : Nat) (h : StoreAt w b s) (hx : x < 4294967296) (hl : 1 ≤ lev s.σ x) :
    Calls Try.prog 81 #[.pointer (some ⟨b, 0, none⟩), .int .u32 x] w fun e w' =>
      e = .returned (.tuple #[.agg #[.int .u32 (kidsOf s.σ x).a, .int .u32 (kidsOf s.σ x).b, .int .u32 (kidsOf s.σ x).c, .int .u32 (kidsOf s.σ x).d], .bool true]) ∧ Below w.heap.size w w' := by
  refine (of_st w b s x h hx).mono ?_
  rintro e w1 ⟨he, hb⟩
  rw [if_pos hl] at he
  have : decide (1 ≤ lev s.σ x) = true := by simpa using hl
  rw [this] at he
  exact ⟨he, hb⟩
/-- Behind the choice of a Kid: its number, and the point in it, in a fresh place. -/
def Chose (W : World) (i : Nat) (qx qy : Int) (u8 u9 : Value) (wc : World) : Prop :=
  ∃ g, u8 = .int .i64 i ∧ u9 = .pointer (some ⟨g, 0, none⟩) ∧ wc.heap[g]? = some (.cells #[.int .i64 qx, .int .i64 qy] 45 (0, 0)) ∧ Below W.heap.size W wc ∧ W.heap.size ≤ g

theorem choseB {W w4 : World} {i : Nat} {qx qy : Int} (hb : Below W.drew.heap.size W.drew w4) :
    Chose W i qx qy (.int .i64 i) (.pointer (some ⟨w4.heap.size, 0, none⟩)) (w4.alloc (.cells #[.int .i64 qx, .int .i64 qy] 45)) :=
  ⟨w4.heap.size, rfl, rfl, heap_alloc_new _ _, (below_then (Below.refl _ W).drew hb).alloc hb.size _, hb.size⟩
theorem choseA {W w4 : World} {i : Nat} {qx qy : Int} {Z : Obj} {u v : Value} (hb : Below (W.alloc Z).drew.heap.size (W.alloc Z).drew w4) (hk : w4.heap[W.heap.size]? = some (.cells #[u, v] 45 (0, 0))) :
    Chose W i qx qy (.int .i64 i) (.pointer (some ⟨W.heap.size, 0, none⟩)) ((w4.setCell ⟨W.heap.size, 0, none⟩ (.int .i64 qx)).setCell ⟨W.heap.size, 1, none⟩ (.int .i64 qy)) :=
  ⟨W.heap.size, rfl, rfl, set2_blk hk, ((below_then (below_a1 W Z).drew hb).setCell (Nat.le_refl _) _).setCell (Nat.le_refl _) _, Nat.le_refl _⟩

/-- Where the descent stands. -/
def GetRel (w : World) (b r : Nat) (s : SV) (goal : Bool) (g : Nat) (x : Value) (wr : World) : Prop :=
  ∃ (xid : Nat) (qx qy : Int), x = .int .u32 xid ∧ xid < s.σ.length ∧ lev s.σ xid = g ∧ (0 ≤ qx ∧ qx < 2 ^ g) ∧ (0 ≤ qy ∧ qy < 2 ^ g) ∧ cell s.σ g xid qx qy = goal ∧ Below w.heap.size w wr ∧
    wr.heap[w.heap.size]? = some (.cells #[.pointer (some ⟨b, 0, none⟩), .int .u32 r] 51 (0, 0)) ∧ wr.heap[w.heap.size + 1]? = some (.cells #[.int .i64 qx, .int .i64 qy] 45 (0, 0))
theorem hf_two {l : Int} (h : 1 ≤ l) : (2 : Int) ^ l.toNat = 2 * hf l := by
  unfold hf
  rw [show l.toNat = (l - 1).toNat + 1 by omega, Int.pow_succ]; omega

set_option maxRecDepth 100000 in
set_option maxHeartbeats 1000000 in
theorem get_st (w : World) (b r : Nat) (s : SV) (px py : Int) (h : StoreAt w b s) (hr : r < s.σ.length) (hl1 : 1 ≤ lev s.σ r) :
    Calls Try.prog 33 #[pval b r, pt px py] w fun e w' => e = .returned (.bool (get s.σ r px py)) ∧ Below w.heap.size w w' := by
  have hr4 : r < 4294967296 := by have := h.len.2; omega
  have HS : Hid (StoreAt ((w.alloc (.cells #[.pointer (some ⟨b, 0, none⟩), .int .u32 r] 51)).alloc (.cells #[.int .i64 px, .int .i64 py] 45)) b s) := h.below (below_a2 w _ _)
  have H0 := Lib.hid h
  have his : decide (r < s.σ.length) = true := by simpa using hr
  clear h
  cases hin : inSq (lev s.σ r) px py with
  | false =>
    have hg : get s.σ r px py = false := by simp [get, hin]
    have HG := Lib.hid hg
    clear hg
    unfold pval pt
    go_enter Try.func33, Try.ntmps33
    go_wp2_with (first | (go_at_call 86; refine (is_st _ _ _ _ HS.out hr4).mono ?_; rintro e w1 ⟨rfl, rfl⟩; rw [his]) | (go_at_call 87; refine (has_st _ _ _ _ _ _ HS.out hr4).mono ?_; rintro e w1 ⟨rfl, hb1⟩; rw [hin]; have HB1 := Lib.hid hb1; clear hb1) | go_in)
    go_ret
    rw [HG.out]
    exact ⟨by rfl, below_then (below_a2 w _ _) HB1.out⟩
  | true =>
    have hxy : (-hf (lev s.σ r) ≤ px ∧ px < hf (lev s.σ r)) ∧ (-hf (lev s.σ r) ≤ py ∧ py < hf (lev s.σ r)) := by
      simp only [inSq, Bool.and_eq_true, decide_eq_true_eq] at hin; exact ⟨⟨hin.1.1.1, hin.1.1.2⟩, hin.1.2, hin.2⟩
    have HXY := Lib.hid hxy
    clear hxy
    have hg : get s.σ r px py = cell s.σ (lev s.σ r).toNat r (px + hf (lev s.σ r)) (py + hf (lev s.σ r)) := by simp [get, hin]
    have HG := Lib.hid hg
    clear hg
    unfold pval pt
    go_enter Try.func33, Try.ntmps33
    go_wp2_with (first
      | (go_at_call 86; refine (is_st _ _ _ _ HS.out hr4).mono ?_; rintro e w1 ⟨rfl, rfl⟩; rw [his])
      | (go_at_call 87; refine (has_st _ _ _ _ _ _ HS.out hr4).mono ?_; rintro e w1 ⟨rfl, hb1⟩; rw [hin]
         have k0 := kept hb1 (blk2_0 w _ _)
         have k1 := kept hb1 (blk2_1 w _ _)
         have p0 := cell_of_blk k0 0
         have p1 := cell_of_blk k0 1
         have q0 := cell_of_blk k1 0
         have q1 := cell_of_blk k1 1
         simp at p0 p1 q0 q1
         have HB1 := Lib.hid hb1
         have HP := Lib.hid k0
         have HQ := Lib.hid k1
         clear hb1 k0 k1)
      | (go_at_call 88; refine (start_st _ _ _ _ _ _ (HS.out.below HB1.out) hr4 HXY.out.1 HXY.out.2).mono ?_; rintro e w2 ⟨rfl, hb2⟩
         have k2 := kept hb2 HP.out
         have k3 := kept hb2 HQ.out
         have q2 := cell_of_blk k3 0
         have q3 := cell_of_blk k3 1
         have f2 := free_of_blk k3 0
         have f3 := free_of_blk k3 1
         simp at q2 q3
         have HP2 := Lib.hid k2
         have HQ2 := Lib.hid k3
         have HB2 := Lib.hid hb2
         clear hb2 k2 k3
         unfold pt)
      | go_in)
    go_loopg [5] (lev s.σ r).toNat (fun g x wr => GetRel w b r s (get s.σ r px py) g x wr)
    case atStart =>
      have h2 := hf_two hl1
      have h3 := HXY.out
      refine ⟨r, _, _, rfl, hr, by omega, by omega, by omega, HG.out.symm, ?_, ?_, ?_⟩
      · exact ((below_then (below_then (below_a2 w _ _) HB1.out) HB2.out).setCell (by simp) _).setCell (by simp) _
      · rw [heap_setCell_other _ _ _ _ (by simp), heap_setCell_other _ _ _ _ (by simp)]; exact HP2.out
      · exact set2_blk HQ2.out
    case round =>
      obtain ⟨x, qx, qy, rfl, hx, hxl, hqx, hqy, hgoal, hbel, hP, hQ⟩ := hrel
      clear q0 q1 q2 q3 f2 f3 p0 p1 HP HQ HP2 HQ2
      have hx4 : x < 4294967296 := by have := H0.out.len.2; omega
      have HW : Hid (StoreAt wr b s) := H0.out.below hbel
      have p0 := cell_of_blk hP 0
      have q0 := cell_of_blk hQ 0
      have q1 := cell_of_blk hQ 1
      simp at p0 q0 q1
      have HP := Lib.hid hP
      have HQ := Lib.hid hQ
      have HBel := Lib.hid hbel
      have HGoal := Lib.hid hgoal
      clear hP hQ hbel hgoal
      cases gk with
      | zero =>
        have hd : lev s.σ x < 1 := by omega
        have hres : Hid (decide (x = 1) = get s.σ r px py) := Lib.hid (by have := HGoal.out; simpa [cell] using this)
        go_wp2_with (first
          | (go_at_call 81; refine (of_no _ _ _ _ HW.out hx4 hd).mono ?_; rintro e w3 ⟨rfl, hb3⟩; have HB3 := Lib.hid hb3; clear hb3)
          | go_in)
        go_ret
        refine ⟨?_, below_then HBel.out HB3.out |>.alloc ?_ _⟩
        · rw [← hres.out]
          have : (((x : Nat) : Int) == 1) = decide (x = 1) := by by_cases hx1 : x = 1 <;> simp [hx1] <;> omega
          simp [this]
        · have := (below_then HBel.out HB3.out).size; omega
      | succ n =>
        have hn61 : n ≤ 61 := by have := lev_le H0.out.wf x; omega
        have hd : 1 ≤ lev s.σ x := by omega
        go_wp2_with (first
          | (go_at_call 81; refine (of_yes _ _ _ _ HW.out hx4 hd).mono ?_; rintro e w3 ⟨rfl, hb3⟩; have HB3 := Lib.hid hb3; clear hb3)
          | go_in)
        clear p0 q0 q1
        obtain ⟨W, hWe⟩ : ∃ W, W = w3.alloc (.cells #[.int .u32 (kidsOf s.σ x).a, .int .u32 (kidsOf s.σ x).b, .int .u32 (kidsOf s.σ x).c, .int .u32 (kidsOf s.σ x).d] 138) := ⟨_, rfl⟩
        rw [← hWe]
        have hwr := HBel.out.size
        have hr3 := HB3.out.size
        have hWz : W.heap.size = w3.heap.size + 1 := by rw [hWe]; simp
        have hrW : Below wr.heap.size wr W := by rw [hWe]; exact HB3.out.alloc hr3 _
        have hWb : Below w.heap.size w W := below_then HBel.out hrW
        have hK : W.heap[w3.heap.size]? = some (.cells #[.int .u32 (kidsOf s.σ x).a, .int .u32 (kidsOf s.σ x).b, .int .u32 (kidsOf s.σ x).c, .int .u32 (kidsOf s.σ x).d] 138 (0, 0)) := by rw [hWe]; exact heap_alloc_new _ _
        have hP := kept hrW HP.out
        have hQ := kept hrW HQ.out
        have HSW : Hid (StoreAt W b s) := HW.out.below hrW
        have p0 := cell_of_blk hP 0
        have q0 := cell_of_blk hQ 0
        have q1 := cell_of_blk hQ 1
        simp at p0 q0 q1
        have ltP : w.heap.size < W.heap.size := (Array.getElem?_eq_some_iff.1 hP).1
        have ltQ : w.heap.size + 1 < W.heap.size := (Array.getElem?_eq_some_iff.1 hQ).1
        have pz0 : ∀ o, (W.alloc o).cell? ⟨w.heap.size, 0, none⟩ = some (.pointer (some ⟨b, 0, none⟩)) := fun o => by rw [World.cell?_alloc_old _ _ _ (by simp; omega)]; exact p0
        have qz0 : ∀ o, (W.alloc o).cell? ⟨w.heap.size + 1, 0, none⟩ = some (.int .i64 qx) := fun o => by rw [World.cell?_alloc_old _ _ _ (by simp; omega)]; exact q0
        have qz1 : ∀ o, (W.alloc o).cell? ⟨w.heap.size + 1, 1, none⟩ = some (.int .i64 qy) := fun o => by rw [World.cell?_alloc_old _ _ _ (by simp; omega)]; exact q1
        have HWb := Lib.hid hWb
        have HP := Lib.hid hP
        have HQ := Lib.hid hQ
        have HK := Lib.hid hK
        have HXL := Lib.hid hxl
        have hxl' : lev s.σ x = (n + 1 : Nat) := hxl
        have HWz := Lib.hid hWz
        clear hP hQ hK hrW hWb hWe hxl hWz hwr hr3
        go_cut [8, 9] (fun u8 u9 wc => Chose W (qi (2 ^ n) qx qy) (qc (2 ^ n) qx) (qc (2 ^ n) qy) u8 u9 wc)
        case first =>
          go_region_law (first
            | (go_simp; go_at_call 31; refine (level_st _ _ _ _ (HSW.out.below (by first | exact (Below.refl _ _).drew | exact ((Below.refl _ _).drew).alloc (by simp) _ | exact ((Below.refl _ _).alloc (by simp) _).drew)) hx4).mono ?_; rintro e w4 ⟨rfl, rfl⟩; rw [hxl'])
            | (go_simp; go_at_call 89; refine (which_st _ _ _ _ hn61 hqx hqy).mono ?_; rintro e w4 ⟨rfl, hb4⟩
               try (
                 have kz := kept hb4 (k := W.heap.size) (o := .cells #[.int .i64 0, .int .i64 0] 45 (0, 0)) (by exact heap_alloc_new _ _)
                 have z0 := cell_of_blk kz 0
                 have z1 := cell_of_blk kz 1
                 have y0 := free_of_blk kz 0
                 have y1 := free_of_blk kz 1
                 simp at z0 z1
                 have HKZ := Lib.hid kz
                 clear kz)
               have HB4 := Lib.hid hb4
               clear hb4
               unfold pt))
          all_goals (go_wp2_with fail)
          all_goals go_meet
          all_goals first
            | exact choseA HB4.out HKZ.out
            | exact choseB HB4.out
        case rest =>
          obtain ⟨g, rfl, rfl, hg, hWc, hgW⟩ := hcut
          have hwc := hWc.size
          have hP := kept hWc HP.out
          have hQ := kept hWc HQ.out
          have hK := kept hWc HK.out
          have hq4 := qi_lt (2 ^ n) qx qy
          have p0' := cell_of_blk hP 0
          have g0 := cell_of_blk hg 0
          have g1 := cell_of_blk hg 1
          have k0 : wc.cell? ⟨w3.heap.size, qi (2 ^ n) qx qy, none⟩ = some (.int .u32 (kth (kidsOf s.σ x) (qi (2 ^ n) qx qy))) := by
            rw [cell_of_blk hK]
            generalize qi (2 ^ n) qx qy = i at hq4
            obtain rfl | rfl | rfl | rfl : i = 0 ∨ i = 1 ∨ i = 2 ∨ i = 3 := by omega
            all_goals rfl
          have q0' := cell_of_blk hQ 0
          have q1' := cell_of_blk hQ 1
          have f0' := free_of_blk hQ 0
          have f1' := free_of_blk hQ 1
          simp at p0' g0 g1 q0' q1'
          have HP' := Lib.hid hP
          have HQ' := Lib.hid hQ
          have HWC := Lib.hid hWc
          have HGW := Lib.hid hgW
          clear hP hQ hK hg hWc hgW hwc p0 q0 q1 pz0 qz0 qz1
          have hqi : ((qi (2 ^ n) qx qy : Nat) : Int) < 4 := by omega
          go_wp2_with (first | go_region | go_in)
          go_roundg n
          case measure => omega
          case rel =>
            obtain ⟨hk1, hk2⟩ := kid_ok H0.out.wf HXL.out (qi (2 ^ n) qx qy)
            refine ⟨_, _, _, rfl, by omega, hk2, qc_bd hqx, qc_bd hqy, HGoal.out, ?_, ?_, ?_⟩
            · exact (((below_then HWb.out HWC.out).setCell (by simp) _).setCell (by simp) _).drew
            · show ((wc.setCell _ _).setCell _ _).heap[w.heap.size]? = _
              rw [heap_setCell_other _ _ _ _ (by simp), heap_setCell_other _ _ _ _ (by simp)]; exact HP'.out
            · exact set2_blk HQ'.out
end Go.Proofs.Ytkelfgigigcnjaa
