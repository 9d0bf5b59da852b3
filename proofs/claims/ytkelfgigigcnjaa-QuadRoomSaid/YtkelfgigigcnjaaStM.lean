/-
  The store's Make.
-/
import Derived.Test.YtkelfgigigcnjaaStS
namespace Go.Proofs.Ytkelfgigigcnjaa
open Go.RowKit Go.Bv

/-- a sum, or the greatest number -/
def plusL : List Nat → Nat → Nat
  | [], acc => acc
  | x :: xs, acc => if acc + x > 18446744073709551615 then 18446744073709551615 else plusL xs (acc + x)
theorem plusL_sum4 (σ : List Nd) (k : K4) (hm : cnt σ k.a ≤ 18446744073709551615) : plusL [cnt σ k.a, cnt σ k.b, cnt σ k.c, cnt σ k.d] 0 = sum4 σ k := by
  simp only [plusL, sum4, Nat.zero_add]
  rw [if_neg (by omega)]
  
set_option maxRecDepth 100000 in
set_option maxHeartbeats 1000000 in
theorem plus_st (w : World) (g : Nat) (l : List Nat) (hl : l.length = 4) (hm : ∀ x ∈ l, x ≤ 18446744073709551615)
    (hc : ∀ j, j < 4 → w.cell? ⟨g, j, none⟩ = some (.int .u64 (l.getD j 0))) :
    Calls Try.prog 117 #[.slice (some ⟨g, 0, none⟩) 4 4] w fun e w' => e = .returned (.int .u64 (plusL l 0)) ∧ w = w' := by
  have HC := Lib.hid hc
  clear hc
  go_enter Try.func117, Try.ntmps117
  go_wp2
  go_loop [3, 5, 8] (fun n _ i => ∃ (j acc : Nat), j ≤ 4 ∧ i = .int .i64 j ∧ n = .int .u64 acc ∧ acc ≤ 18446744073709551615 ∧ plusL (l.drop j) acc = plusL l 0) (fun _ _ i => (4 - (intOf i).toNat))
  case atStart => exact ⟨0, 0, by omega, rfl, rfl, by omega, rfl⟩
  case round =>
    obtain ⟨j, acc, hj, rfl, rfl, hacc, heq⟩ := hrel
    have HE := Lib.hid heq
    clear heq
    by_cases hj4 : j < 4
    · have hcj := HC.out j hj4
      have hlt : j < l.length := by omega
      obtain ⟨x, hx⟩ : ∃ x, x = l.getD j 0 := ⟨_, rfl⟩
      rw [← hx] at hcj
      have hxb : x ≤ 18446744073709551615 := by
        rw [hx]; simp only [List.getD_eq_getElem?_getD, List.getElem?_eq_getElem hlt, Option.getD_some]; exact hm _ (List.getElem_mem hlt)
      have hd : Hid (l.drop j = x :: l.drop (j + 1)) := by
        simp only [Hid]; rw [List.drop_eq_getElem_cons hlt, hx]; simp [hlt]
      clear hx hm hl
      by_cases ho : 18446744073709551615 - (acc : Int) < x
      · go_wp2
        go_ret
        refine ⟨?_, rfl⟩
        have e := HE.out
        rw [hd.out, plusL, if_pos (by omega)] at e
        rw [← e]; rfl
      · go_wp2
        go_round
        case rel =>
          refine ⟨j + 1, acc + x, by omega, by go_num, by go_num, by omega, ?_⟩
          have e := HE.out
          rw [hd.out, plusL, if_neg (by omega)] at e
          exact e
        case measure => simp [intOf]; omega
    · obtain rfl : j = 4 := by omega
      have e := HE.out
      rw [List.drop_of_length_le (by omega), plusL] at e
      have HF := Lib.hid e
      clear e hm hl
      go_wp2
      go_ret
      exact ⟨by rw [← HF.out]; rfl, rfl⟩
end Go.Proofs.Ytkelfgigigcnjaa
