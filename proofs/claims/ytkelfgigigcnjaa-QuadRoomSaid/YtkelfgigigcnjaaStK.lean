/-
  The store's Make.
-/
import Derived.Test.YtkelfgigigcnjaaStM
namespace Go.Proofs.Ytkelfgigigcnjaa
open Go.RowKit Go.Bv

/-- an error's number as a value -/
def errv (n : Nat) : Value := if n = 0 then .nilIface else .iface 67 (.int .i64 n)

/-- What a call that may make squares leaves: the store with these squares, everything else as it was. -/
structure Made (w w' : World) (b : Nat) (s : SV) (σ : List Nd) (s' : SV) : Prop where
  at' : StoreAt w' b s'
  σ : s'.σ = σ
  most : s'.most = s.most
  tb : s'.tb = s.tb
  nb : s'.nb = s.nb ∨ w.heap.size ≤ s'.nb
  only : Only (foot b s) w w'

def kth (k : K4) (j : Nat) : Nat := match j with | 0 => k.a | 1 => k.b | 2 => k.c | _ => k.d

set_option maxRecDepth 100000 in
set_option maxHeartbeats 1000000 in
theorem make_bad (w : World) (b : Nat) (s : SV) (k : K4) (h : StoreAt w b s) (ha : k.a < 4294967296) (hb : k.b < 4294967296) (hc : k.c < 4294967296) (hd : k.d < 4294967296) (hk : okK s.σ k = false) :
    Calls Try.prog 83 #[.pointer (some ⟨b, 0, none⟩), kval k] w fun e w' => e = .returned (.tuple #[.int .u32 0, .iface 67 (.int .i64 1)]) ∧ Below w.heap.size w w' := by
  have H := Lib.hid h
  have hbl := h.lt
  have HS : Hid (StoreAt (w.alloc (.cells #[.int .u32 k.a, .int .u32 k.b, .int .u32 k.c, .int .u32 k.d] 138)) b s) := h.below ((Below.refl _ _).alloc (Nat.le_refl _) _)
  have i0 := idx0
  have i1 := idx1
  have i2 := idx2
  have i3 := idx3
  have HK : Hid (okK s.σ k = false) := hk
  have hmx := lev_le h.wf
  have hma := hmx k.a
  have hmb := hmx k.b
  have hmc := hmx k.c
  have hmd := hmx k.d
  clear h hk hmx
  unfold kval
  go_enter Try.func83, Try.ntmps83
  go_wp2_with (go_at_call 31; refine (level_st _ _ _ _ HS.out ha).mono ?_; rintro e w1 ⟨rfl, rfl⟩)
  go_loop [8, 18] (fun _ i => ∃ (j : Nat), j ≤ 4 ∧ i = .int .i64 j ∧ (0 < j → 0 ≤ lev s.σ k.a ∧ lev s.σ k.a < 62) ∧ (1 < j → lev s.σ k.b = lev s.σ k.a) ∧ (2 < j → lev s.σ k.c = lev s.σ k.a) ∧ (3 < j → lev s.σ k.d = lev s.σ k.a)) (fun _ i => (4 - (intOf i).toNat))
  case atStart => exact ⟨0, by omega, rfl, by omega, by omega, by omega, by omega⟩
  case round =>
    obtain ⟨j, hj, rfl, h0, h1, h2, h3⟩ := hrel
    obtain rfl | rfl | rfl | rfl | rfl : j = 0 ∨ j = 1 ∨ j = 2 ∨ j = 3 ∨ j = 4 := by omega
    · clear h0 h1 h2 h3
      have hself : (lev s.σ k.a != lev s.σ k.a) = false := by simp
      by_cases hr1 : lev s.σ k.a < 0
      · go_wp2_with (first | (go_at_call 31; refine (level_st _ _ _ _ HS.out ha).mono ?_; rintro e w1 ⟨rfl, rfl⟩) | go_in)
        go_ret2
        exact ⟨rfl, (Below.refl _ _).alloc (Nat.le_refl _) _⟩
      · by_cases hr2 : 62 ≤ lev s.σ k.a
        · go_wp2_with (first | (go_at_call 31; refine (level_st _ _ _ _ HS.out ha).mono ?_; rintro e w1 ⟨rfl, rfl⟩) | go_in)
          go_ret2
          exact ⟨rfl, (Below.refl _ _).alloc (Nat.le_refl _) _⟩
        · go_wp2_with (first | (go_at_call 31; refine (level_st _ _ _ _ HS.out ha).mono ?_; rintro e w1 ⟨rfl, rfl⟩) | go_in)
          go_round
          case rel => exact ⟨1, by omega, rfl, fun _ => ⟨by omega, by omega⟩, by omega, by omega, by omega⟩
          case measure => simp [intOf]
    · obtain ⟨hr1, hr2⟩ := h0 (by omega)
      clear h0 h1 h2 h3
      have hr3 := hr1
      by_cases heq : lev s.σ k.b = lev s.σ k.a
      · have hne : (lev s.σ k.b != lev s.σ k.a) = false := by simpa using heq
        have HE := Lib.hid heq
        clear heq
        go_wp2_with (first | (go_at_call 31; refine (level_st _ _ _ _ HS.out hb).mono ?_; rintro e w1 ⟨rfl, rfl⟩) | go_in)
        go_round
        case rel => exact ⟨2, by omega, rfl, fun _ => ⟨by omega, by omega⟩, fun _ => HE.out, by omega, by omega⟩
        case measure => simp [intOf]
      · have hne : (lev s.σ k.b != lev s.σ k.a) = true := by simpa using heq
        clear heq
        go_wp2_with (first | (go_at_call 31; refine (level_st _ _ _ _ HS.out hb).mono ?_; rintro e w1 ⟨rfl, rfl⟩) | go_in)
        go_ret2
        exact ⟨rfl, (Below.refl _ _).alloc (Nat.le_refl _) _⟩
    · obtain ⟨hr1, hr2⟩ := h0 (by omega)
      have h1' := h1 (by omega)
      clear h0 h1 h2 h3
      have H1 := Lib.hid h1'; clear h1'; have hr3 := hr1
      by_cases heq : lev s.σ k.c = lev s.σ k.a
      · have hne : (lev s.σ k.c != lev s.σ k.a) = false := by simpa using heq
        have HE := Lib.hid heq
        clear heq
        go_wp2_with (first | (go_at_call 31; refine (level_st _ _ _ _ HS.out hc).mono ?_; rintro e w1 ⟨rfl, rfl⟩) | go_in)
        go_round
        case rel => exact ⟨3, by omega, rfl, fun _ => ⟨by omega, by omega⟩, fun _ => H1.out, fun _ => HE.out, by omega⟩
        case measure => simp [intOf]
      · have hne : (lev s.σ k.c != lev s.σ k.a) = true := by simpa using heq
        clear heq
        go_wp2_with (first | (go_at_call 31; refine (level_st _ _ _ _ HS.out hc).mono ?_; rintro e w1 ⟨rfl, rfl⟩) | go_in)
        go_ret2
        exact ⟨rfl, (Below.refl _ _).alloc (Nat.le_refl _) _⟩
    · obtain ⟨hr1, hr2⟩ := h0 (by omega)
      have h1' := h1 (by omega)
      have h2' := h2 (by omega)
      clear h0 h1 h2 h3
      have H1 := Lib.hid h1'; have H2 := Lib.hid h2'; clear h1' h2'; have hr3 := hr1
      by_cases heq : lev s.σ k.d = lev s.σ k.a
      · have hne : (lev s.σ k.d != lev s.σ k.a) = false := by simpa using heq
        have HE := Lib.hid heq
        clear heq
        go_wp2_with (first | (go_at_call 31; refine (level_st _ _ _ _ HS.out hd).mono ?_; rintro e w1 ⟨rfl, rfl⟩) | go_in)
        go_round
        case rel => exact ⟨4, by omega, rfl, fun _ => ⟨by omega, by omega⟩, fun _ => H1.out, fun _ => H2.out, fun _ => HE.out⟩
        case measure => simp [intOf]
      · have hne : (lev s.σ k.d != lev s.σ k.a) = true := by simpa using heq
        clear heq
        go_wp2_with (first | (go_at_call 31; refine (level_st _ _ _ _ HS.out hd).mono ?_; rintro e w1 ⟨rfl, rfl⟩) | go_in)
        go_ret2
        exact ⟨rfl, (Below.refl _ _).alloc (Nat.le_refl _) _⟩
    · exfalso
      obtain ⟨hr1, hr2⟩ := h0 (by omega)
      have e := HK.out
      simp [okK, hr1, hr2, h1 (by omega), h2 (by omega), h3 (by omega)] at e
end Go.Proofs.Ytkelfgigigcnjaa
