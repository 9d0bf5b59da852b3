/-
  The store's methods that only read: Len, Room, Is, Level, Count, Of.
-/
import Derived.Test.YtkelfgigigcnjaaStA
import Derived.Test.YtkelfgigigcnjaaErr
namespace Go.Proofs.Ytkelfgigigcnjaa
open Go.RowKit Go.Bv

set_option maxRecDepth 100000 in
set_option maxHeartbeats 400000 in
theorem len_st (w : World) (b : Nat) (s : SV) (h : StoreAt w b s) :
    Calls Try.prog 26 #[.pointer (some ⟨b, 0, none⟩)] w fun e w' => e = .returned (.int .i64 s.σ.length) ∧ w = w' := by
  have c0 := h.c0
  go_enter Try.func26, Try.ntmps26
  go_wp2
  go_ret
  exact ⟨rfl, rfl⟩

set_option maxRecDepth 100000 in
set_option maxHeartbeats 400000 in
theorem room_st (w : World) (b : Nat) (s : SV) (h : StoreAt w b s) :
    Calls Try.prog 27 #[.pointer (some ⟨b, 0, none⟩)] w fun e w' => e = .returned (.int .i64 ((s.most : Int) - s.σ.length)) ∧ w.drew = w' := by
  have c0 := h.c0
  have c2 := h.c2
  have h1 := h.len
  have h2 := h.top
  have hw : IntKind.i64.wrap ((s.most : Int) - s.σ.length) = (s.most : Int) - s.σ.length := IntWalk.i64_in _ (by omega)
  go_enter Try.func27, Try.ntmps27
  go_wp2_with (first | (refine still_all mix (by decide +kernel) ?_; (repeat still_step); refine wpStill_nil ?_))
  go_ret
  exact ⟨rfl, rfl⟩

set_option maxRecDepth 100000 in
set_option maxHeartbeats 400000 in
theorem is_st (w : World) (b : Nat) (s : SV) (x : Nat) (h : StoreAt w b s) (hx : x < 4294967296) :
    Calls Try.prog 86 #[.pointer (some ⟨b, 0, none⟩), .int .u32 x] w fun e w' => e = .returned (.bool (decide (x < s.σ.length))) ∧ w = w' := by
  have H := Lib.hid h
  go_enter Try.func86, Try.ntmps86
  go_wp2_with (go_at_call 26; refine (len_st _ _ _ H.out).mono ?_; rintro e w1 ⟨rfl, rfl⟩)
  go_ret
  refine ⟨?_, rfl⟩
  simp

set_option maxRecDepth 100000 in
set_option maxHeartbeats 400000 in
theorem level_st (w : World) (b : Nat) (s : SV) (x : Nat) (h : StoreAt w b s) (hx : x < 4294967296) :
    Calls Try.prog 31 #[.pointer (some ⟨b, 0, none⟩), .int .u32 x] w fun e w' => e = .returned (.int .i64 (lev s.σ x)) ∧ w = w' := by
  have H := Lib.hid h
  have c0 := h.c0
  have hl := h.len
  by_cases hlt : x < s.σ.length
  · have hd : decide (x < s.σ.length) = true := by simpa using hlt
    have hn : s.σ[x]? = some s.σ[x] := List.getElem?_eq_getElem hlt
    have hc := h.node hn (j := 4) (by omega)
    have hL : Hid (lev s.σ x = (s.σ[x].level : Int)) := by simp only [Hid, lev, hn]
    simp only [ncells, List.getElem?_cons_succ, List.getElem?_cons_zero] at hc
    clear h hn
    go_enter Try.func31, Try.ntmps31
    go_wp2_with (go_at_call 86; refine (is_st _ _ _ _ H.out hx).mono ?_; rintro e w1 ⟨rfl, rfl⟩)
    go_ret
    exact ⟨by rw [hL.out]; rfl, rfl⟩
  · have hd : decide (x < s.σ.length) = false := by simpa using hlt
    have hL : Hid (lev s.σ x = -1) := by simp only [Hid, lev, List.getElem?_eq_none (Nat.le_of_not_lt hlt)]
    clear h
    go_enter Try.func31, Try.ntmps31
    go_wp2_with (go_at_call 86; refine (is_st _ _ _ _ H.out hx).mono ?_; rintro e w1 ⟨rfl, rfl⟩)
    go_ret
    exact ⟨by rw [hL.out]; rfl, rfl⟩

set_option maxRecDepth 100000 in
set_option maxHeartbeats 400000 in
theorem count_st (w : World) (b : Nat) (s : SV) (x : Nat) (h : StoreAt w b s) (hx : x < 4294967296) :
    Calls Try.prog 32 #[.pointer (some ⟨b, 0, none⟩), .int .u32 x] w fun e w' => e = .returned (.int .u64 (cnt s.σ x)) ∧ w = w' := by
  have H := Lib.hid h
  have c0 := h.c0
  have hl := h.len
  by_cases hlt : x < s.σ.length
  · have hd : decide (x < s.σ.length) = true := by simpa using hlt
    have hn : s.σ[x]? = some s.σ[x] := List.getElem?_eq_getElem hlt
    have hc := h.node hn (j := 5) (by omega)
    have hL : Hid (cnt s.σ x = s.σ[x].alive) := by simp only [Hid, cnt, hn]
    simp only [ncells, List.getElem?_cons_succ, List.getElem?_cons_zero] at hc
    clear h hn
    go_enter Try.func32, Try.ntmps32
    go_wp2_with (go_at_call 86; refine (is_st _ _ _ _ H.out hx).mono ?_; rintro e w1 ⟨rfl, rfl⟩)
    go_ret
    exact ⟨by rw [hL.out]; rfl, rfl⟩
  · have hd : decide (x < s.σ.length) = false := by simpa using hlt
    have hL : Hid (cnt s.σ x = 0) := by simp only [Hid, cnt, List.getElem?_eq_none (Nat.le_of_not_lt hlt)]
    clear h
    go_enter Try.func32, Try.ntmps32
    go_wp2_with (go_at_call 86; refine (is_st _ _ _ _ H.out hx).mono ?_; rintro e w1 ⟨rfl, rfl⟩)
    go_ret
    exact ⟨by rw [hL.out]; rfl, rfl⟩

set_option maxRecDepth 100000 in
set_option maxHeartbeats 400000 in
theorem of_st (w : World) (b : Nat) (s : SV) (x : Nat) (h : StoreAt w b s) (hx : x < 4294967296) :
    Calls Try.prog 81 #[.pointer (some ⟨b, 0, none⟩), .int .u32 x] w fun e w' =>
      e = .returned (.tuple #[kval (if 1 ≤ lev s.σ x then kidsOf s.σ x else ⟨0, 0, 0, 0⟩), .bool (decide (1 ≤ lev s.σ x))]) ∧ Below w.heap.size w w' := by
  have H := Lib.hid h
  have c0 := h.c0
  have hl := h.len
  have hb := h.lt
  by_cases hlev : 1 ≤ lev s.σ x
  · have hlt := lt_of_lev (by omega : 0 ≤ lev s.σ x)
    have hn : s.σ[x]? = some s.σ[x] := List.getElem?_eq_getElem hlt
    have hc0 := h.node hn (j := 0) (by omega)
    have hc1 := h.node hn (j := 1) (by omega)
    have hc2 := h.node hn (j := 2) (by omega)
    have hc3 := h.node hn (j := 3) (by omega)
    have hnl := h.nlt
    have hL : Hid (kidsOf s.σ x = s.σ[x].k) := by simp only [Hid, kidsOf, hn]
    simp only [ncells, List.getElem?_cons_succ, List.getElem?_cons_zero, Nat.add_zero] at hc0 hc1 hc2 hc3
    rw [if_pos hlev]
    clear h hn
    go_enter Try.func81, Try.ntmps81
    go_wp2_with (go_at_call 31; refine (level_st _ _ _ _ (H.out.below ((Below.refl _ _).alloc (Nat.le_refl _) _)) hx).mono ?_; rintro e w1 ⟨rfl, rfl⟩)
    refine bodyPost_ret (v := .tuple #[kval s.σ[x].k, .bool true]) (by simp [results, Try.results81, go_sem, kval]) rfl ⟨?_, (Below.refl _ _).alloc (Nat.le_refl _) _⟩
    rw [hL.out, show decide (1 ≤ lev s.σ x) = true from by simpa using hlev]
  · rw [if_neg hlev]
    have hlev' : lev s.σ x < 1 := by omega
    have hd : Hid (decide (1 ≤ lev s.σ x) = false) := by simp only [Hid]; simpa using hlev
    clear h hlev
    go_enter Try.func81, Try.ntmps81
    go_wp2_with (go_at_call 31; refine (level_st _ _ _ _ (H.out.below ((Below.refl _ _).alloc (Nat.le_refl _) _)) hx).mono ?_; rintro e w1 ⟨rfl, rfl⟩)
    refine bodyPost_ret (v := .tuple #[kval ⟨0, 0, 0, 0⟩, .bool false]) (by simp [results, Try.results81, go_sem, kval]) rfl ⟨?_, ?_⟩
    · rw [hd.out]
    · exact (Below.refl _ _).alloc (Nat.le_refl _) _
end Go.Proofs.Ytkelfgigigcnjaa
