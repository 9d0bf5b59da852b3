/-
  The store's Make of four that may be a square's.
-/
import Derived.Test.YtkelfgigigcnjaaStK
namespace Go.Proofs.Ytkelfgigigcnjaa
open Go.RowKit Go.Bv

set_option maxRecDepth 100000 in
set_option maxHeartbeats 4000000 in
theorem make_old (w : World) (b : Nat) (s : SV) (k : K4) (h : StoreAt w b s) (ha : k.a < 4294967296) (hb : k.b < 4294967296) (hc : k.c < 4294967296) (hd : k.d < 4294967296) (hk : okK s.σ k = true)
    (hno : findK s.σ k ≠ none ∨ s.most ≤ s.σ.length) :
    Calls Try.prog 83 #[.pointer (some ⟨b, 0, none⟩), kval k] w fun e w' => e = .returned (.tuple #[.int .u32 (mk s.σ s.most k).2.1, errv (mk s.σ s.most k).2.2]) ∧ Below w.heap.size w w' := by
  have H := Lib.hid h
  have hbl := h.lt
  have hbelow : Below w.heap.size w (w.alloc (.cells #[.int .u32 k.a, .int .u32 k.b, .int .u32 k.c, .int .u32 k.d] 138)) := (Below.refl _ _).alloc (Nat.le_refl _) _
  have HS : Hid (StoreAt (w.alloc (.cells #[.int .u32 k.a, .int .u32 k.b, .int .u32 k.c, .int .u32 k.d] 138)) b s) := h.below hbelow
  have i0 := idx0
  have i1 := idx1
  have i2 := idx2
  have i3 := idx3
  have HK : Hid (okK s.σ k = true) := hk
  obtain ⟨hr1, hr2, e1, e2, e3⟩ := okK_spec hk
  have n0 : (lev s.σ k.a != lev s.σ k.a) = false := by simp
  have n1 : (lev s.σ k.b != lev s.σ k.a) = false := by simpa using e1
  have n2 : (lev s.σ k.c != lev s.σ k.a) = false := by simpa using e2
  have n3 : (lev s.σ k.d != lev s.σ k.a) = false := by simpa using e3
  have hlen := h.len
  have htop := h.top
  clear h hk e1 e2 e3
  unfold kval
  go_enter Try.func83, Try.ntmps83
  go_wp2_with (go_at_call 31; refine (level_st _ _ _ _ HS.out ha).mono ?_; rintro e w1 ⟨rfl, rfl⟩)
  go_loop [8, 18] (fun _ i => ∃ (j : Nat), j ≤ 4 ∧ i = .int .i64 j) (fun _ i => (4 - (intOf i).toNat))
  case atStart => exact ⟨0, by omega, rfl⟩
  case round =>
    obtain ⟨j, hj, rfl⟩ := hrel
    obtain rfl | rfl | rfl | rfl | rfl : j = 0 ∨ j = 1 ∨ j = 2 ∨ j = 3 ∨ j = 4 := by omega
    · go_wp2_with (first | (go_at_call 31; refine (level_st _ _ _ _ HS.out ha).mono ?_; rintro e w1 ⟨rfl, rfl⟩) | go_in)
      go_round
      case rel => exact ⟨1, by omega, rfl⟩
      case measure => simp [intOf]
    · go_wp2_with (first | (go_at_call 31; refine (level_st _ _ _ _ HS.out hb).mono ?_; rintro e w1 ⟨rfl, rfl⟩) | go_in)
      go_round
      case rel => exact ⟨2, by omega, rfl⟩
      case measure => simp [intOf]
    · go_wp2_with (first | (go_at_call 31; refine (level_st _ _ _ _ HS.out hc).mono ?_; rintro e w1 ⟨rfl, rfl⟩) | go_in)
      go_round
      case rel => exact ⟨3, by omega, rfl⟩
      case measure => simp [intOf]
    · go_wp2_with (first | (go_at_call 31; refine (level_st _ _ _ _ HS.out hd).mono ?_; rintro e w1 ⟨rfl, rfl⟩) | go_in)
      go_round
      case rel => exact ⟨4, by omega, rfl⟩
      case measure => simp [intOf]
    · clear i0 i1 i2 i3
      go_wp2_with fail
      refine (slot_st _ _ _ k HS.out ha hb hc hd).mono ?_
      rintro e w2 ⟨⟨i, rfl, hi, hslot⟩, hb2⟩
      have hS2 : StoreAt w2 b s := HS.out.below hb2
      have c0 := hS2.c0
      have c1 := hS2.c1
      have ce := hS2.entry hi
      have HS2 := Lib.hid hS2
      have HSl := Lib.hid hslot
      clear hS2 hslot
      obtain ⟨x, hx⟩ : ∃ x, x = s.tab.getD i 0 := ⟨_, rfl⟩
      have HX := Lib.hid hx
      rw [← hx] at ce
      clear hx
      have htm := H.out.tmx
      have hfin : ∀ W', Below (w.heap.size + 1) (w.alloc (.cells #[.int .u32 k.a, .int .u32 k.b, .int .u32 k.c, .int .u32 k.d] 138)) W' → Below w.heap.size w W' := fun W' h => hbelow.trans (h.mono (by omega))
      have HFin := Lib.hid hfin
      have HB2 : Hid (Below (w.heap.size + 1) (w.alloc (.cells #[.int .u32 k.a, .int .u32 k.b, .int .u32 k.c, .int .u32 k.d] 138)) w2) := Lib.hid (by simpa using hb2)
      clear hfin hb2 hbelow
      by_cases hx0 : x = 0
      · have hnone : findK s.σ k = none := findK_none (slot_empty H.out.tok HSl.out (by rw [← HX.out]; exact hx0))
        have hfull : s.most ≤ s.σ.length := by
          rcases hno with h | h
          · exact absurd hnone h
          · exact h
        have hmk : Hid (mk s.σ s.most k = (s.σ, 0, 7)) := by
          simp only [Hid, mk, HK.out, if_true, hnone, if_neg (show ¬ s.σ.length < s.most by omega)]
        clear hno hnone
        subst hx0
        go_wp2_with (first | (go_at_call 27; refine (room_st _ _ _ HS2.out).mono ?_; rintro e w3 ⟨rfl, rfl⟩) | go_in)
        go_ret2
        exact ⟨by rw [hmk.out]; rfl, HFin.out _ HB2.out.drew⟩
      · obtain ⟨hx2, hxl, hxk⟩ := slot_full H.out.tok HSl.out (by rw [← HX.out]; exact hx0)
        have hsome : findK s.σ k = some x := findK_some (by rw [HX.out]; exact hx2) (by rw [HX.out]; exact hxl) (by rw [HX.out]; exact hxk) H.out.wf
        have hmk : Hid (mk s.σ s.most k = (s.σ, x, 0)) := by
          simp only [Hid, mk, HK.out, if_true, hsome]
        have hxn : ((x : Int) != 0) = true := by simpa using hx0
        clear hno hsome hx2 hxl hxk hx0
        go_wp2_with go_in
        go_ret2
        exact ⟨by rw [hmk.out]; rfl, HFin.out _ HB2.out⟩
end Go.Proofs.Ytkelfgigigcnjaa
