/-
  The store's slot: the place of four in the table.
-/
import Derived.Test.YtkelfgigigcnjaaStW
import Derived.Test.YtkelfgigigcnjaaEqA
namespace Go.Proofs.Ytkelfgigigcnjaa
open Go.RowKit Go.Bv

/-- the hash behind i of the four -/
def hsn (k : K4) (i : Nat) : Int := match i with | 0 => 0 | 1 => hs 0 k.a | 2 => hs (hs 0 k.a) k.b | 3 => hs (hs (hs 0 k.a) k.b) k.c | _ => hash k
theorem hsn_bd (k : K4) (i : Nat) : 0 ≤ hsn k i ∧ hsn k i ≤ 18446744073709551615 := by
  unfold hsn
  split
  · omega
  all_goals exact xor_bd _ _
theorem idx0 (a b c d : Int) (w : World) : (Instr.index 138 (.agg #[.int .u32 a, .int .u32 b, .int .u32 c, .int .u32 d]) (.int .i64 0)).run Try.prog w = .ok (.int .u32 a) w := by kernel_rfl
theorem idx1 (a b c d : Int) (w : World) : (Instr.index 138 (.agg #[.int .u32 a, .int .u32 b, .int .u32 c, .int .u32 d]) (.int .i64 1)).run Try.prog w = .ok (.int .u32 b) w := by kernel_rfl
theorem idx2 (a b c d : Int) (w : World) : (Instr.index 138 (.agg #[.int .u32 a, .int .u32 b, .int .u32 c, .int .u32 d]) (.int .i64 2)).run Try.prog w = .ok (.int .u32 c) w := by kernel_rfl
theorem idx3 (a b c d : Int) (w : World) : (Instr.index 138 (.agg #[.int .u32 a, .int .u32 b, .int .u32 c, .int .u32 d]) (.int .i64 3)).run Try.prog w = .ok (.int .u32 d) w := by kernel_rfl
theorem sizeID (w : World) : (sizeOf 33).run Try.prog w = .ok 1 w := by kernel_rfl
theorem neq_kids (k k' : K4) (w : World) : (binOp .neq 138 (.agg #[.int .u32 k.a, .int .u32 k.b, .int .u32 k.c, .int .u32 k.d]) (.agg #[.int .u32 k'.a, .int .u32 k'.b, .int .u32 k'.c, .int .u32 k'.d])).run Try.prog w = .ok (.bool (!decide (k = k'))) w := by
  have h := run_neqArr (P := Try.prog) w (q := .u32) Try.underlying33 sizeID [(k.a : Int), k.b, k.c, k.d] [(k'.a : Int), k'.b, k'.c, k'.d] rfl 138 Try.underlying138
  simp only [List.map_cons, List.map_nil] at h
  rw [h]
  obtain ⟨a, b, c, d⟩ := k
  obtain ⟨a', b', c', d'⟩ := k'
  simp only [List.cons.injEq, Int.ofNat_inj, K4.mk.injEq, and_true]
theorem guard_kids (k k' : K4) (x y : Operand) (w : World) : (eqGuard .neq 138 x y (.agg #[.int .u32 k.a, .int .u32 k.b, .int .u32 k.c, .int .u32 k.d]) (.agg #[.int .u32 k'.a, .int .u32 k'.b, .int .u32 k'.c, .int .u32 k'.d])).run Try.prog w = .ok () w :=
  run_guardArr w (by kernel_rfl) _ _ _ _ _

set_option maxRecDepth 100000 in
set_option maxHeartbeats 2000000 in
theorem slot_st (w : World) (b : Nat) (s : SV) (k : K4) (h : StoreAt w b s) (ha : k.a < 4294967296) (hb : k.b < 4294967296) (hc : k.c < 4294967296) (hd : k.d < 4294967296) :
    Calls Try.prog 116 #[.pointer (some ⟨b, 0, none⟩), kval k] w fun e w' => (∃ i : Nat, e = .returned (.int .i64 i) ∧ i < s.tab.length ∧ SlotAt s.σ s.tab k i) ∧ Below w.heap.size w w' := by
  have H := Lib.hid h
  have c0 := h.c0
  have c1 := h.c1
  have hl := h.len
  have hbl := h.lt
  have hts : 1 ≤ s.tab.length := h.tok.some
  have htm := h.tmx
  have i0 := idx0
  have i1 := idx1
  have i2 := idx2
  have i3 := idx3
  clear h
  unfold kval
  go_enter Try.func116, Try.ntmps116
  go_wp2
  go_loop [5, 7, 10] (fun n _ i => ∃ j : Nat, j ≤ 4 ∧ i = .int .i64 j ∧ n = .int .u64 (hsn k j)) (fun _ _ i => (4 - (intOf i).toNat))
  case atStart => exact ⟨0, by omega, rfl, rfl⟩
  case round =>
    obtain ⟨j, hj, rfl, rfl⟩ := hrel
    obtain rfl | rfl | rfl | rfl | rfl : j = 0 ∨ j = 1 ∨ j = 2 ∨ j = 3 ∨ j = 4 := by omega
    · go_wp2
      go_round
      case rel => exact ⟨1, by omega, rfl, rfl⟩
      case measure => simp [intOf]
    · go_wp2
      go_round
      case rel => exact ⟨2, by omega, rfl, rfl⟩
      case measure => simp [intOf]
    · go_wp2
      go_round
      case rel => exact ⟨3, by omega, rfl, rfl⟩
      case measure => simp [intOf]
    · go_wp2
      go_round
      case rel => exact ⟨4, by omega, rfl, rfl⟩
      case measure => simp [intOf]
    · have hh := hash_bd k
      have hhe : Hid (hsn k 4 = hash k) := rfl
      have hst := Bv.start_eq k (sz := s.tab.length) (by omega) htm
      have hst' : wrap64 ((hsn k 4).tmod s.tab.length) = (pos k s.tab.length : Int) := by rw [hhe.out]; exact hst
      clear hst
      have hp := Bv.pos_lt k (sz := s.tab.length) (by omega)
      go_wp2
      obtain ⟨f, hf, hf0⟩ := free_place H.out.tok (pos k s.tab.length)
      have HF := Lib.hid hf0
      clear hf0 hst' i0 i1 i2 i3
      have hbelow : Below w.heap.size w (w.alloc (.cells #[.int .u32 k.a, .int .u32 k.b, .int .u32 k.c, .int .u32 k.d] 138)) := (Below.refl _ _).alloc (Nat.le_refl _) _
      go_loopg [8] f (fun g i wr => ∃ d, d + g = f ∧ i = .int .i64 ((pos k s.tab.length + d) % s.tab.length : Nat) ∧
        (∀ e, e < d → s.tab.getD ((pos k s.tab.length + e) % s.tab.length) 0 ≠ 0 ∧ kidsOf s.σ (s.tab.getD ((pos k s.tab.length + e) % s.tab.length) 0) ≠ k) ∧
        Below (w.heap.size + 1) (w.alloc (.cells #[.int .u32 k.a, .int .u32 k.b, .int .u32 k.c, .int .u32 k.d] 138)) wr)
      case atStart => exact ⟨0, by omega, by rw [Nat.add_zero, Nat.mod_eq_of_lt hp], fun e he => by omega, Below.refl _ _⟩
      case round =>
        obtain ⟨d, hdg, rfl, hbefore, hbel⟩ := hrel
        have HB := Lib.hid hbefore
        clear hbefore
        have hil : (pos k s.tab.length + d) % s.tab.length < s.tab.length := Nat.mod_lt _ (by omega)
        have hSr : StoreAt wr b s := (H.out.below hbelow).below (by simpa using hbel)
        have c0r := hSr.c0
        have c1r := hSr.c1
        have ce := hSr.entry hil
        have k0 : wr.cell? ⟨w.heap.size, 0, none⟩ = some (.int .u32 k.a) := by rw [hbel.cell (by simp)]; simp
        have k1 : wr.cell? ⟨w.heap.size, 1, none⟩ = some (.int .u32 k.b) := by rw [hbel.cell (by simp)]; simp
        have k2 : wr.cell? ⟨w.heap.size, 2, none⟩ = some (.int .u32 k.c) := by rw [hbel.cell (by simp)]; simp
        have k3 : wr.cell? ⟨w.heap.size, 3, none⟩ = some (.int .u32 k.d) := by rw [hbel.cell (by simp)]; simp
        have HSr := Lib.hid hSr
        have fin : ∀ (W' : World), Below (w.heap.size + 1) (w.alloc (.cells #[.int .u32 k.a, .int .u32 k.b, .int .u32 k.c, .int .u32 k.d] 138)) W' → Below w.heap.size w W' := fun W' h => hbelow.trans (h.mono (by omega))
        have HFin := Lib.hid fin
        clear fin hSr hbelow
        obtain ⟨i, hi⟩ : ∃ i, i = (pos k s.tab.length + d) % s.tab.length := ⟨_, rfl⟩
        have HI := Lib.hid hi
        rw [← hi] at ce hil ⊢
        clear hi
        obtain ⟨x, hx⟩ : ∃ x, x = s.tab.getD i 0 := ⟨_, rfl⟩
        have HX := Lib.hid hx
        rw [← hx] at ce
        clear hx
        by_cases hx0 : x = 0
        · subst hx0
          go_wp2_with fail
          go_quiet (fail)
          go_wp2
          go_ret
          refine ⟨⟨i, rfl, hil, d, by omega, HI.out, HB.out, Or.inl HX.out.symm⟩, HFin.out _ (below_drewN hbel _)⟩
        · have hxe := H.out.tok.entry i (by rw [← HX.out]; exact hx0)
          rw [← HX.out] at hxe
          have hn : s.σ[x]? = some s.σ[x] := List.getElem?_eq_getElem hxe.2
          obtain ⟨n, hnn⟩ : ∃ n, n = s.σ[x] := ⟨_, rfl⟩
          rw [← hnn] at hn
          have hc0 := HSr.out.node hn (j := 0) (by omega)
          have hc1 := HSr.out.node hn (j := 1) (by omega)
          have hc2 := HSr.out.node hn (j := 2) (by omega)
          have hc3 := HSr.out.node hn (j := 3) (by omega)
          simp only [ncells, List.getElem?_cons_succ, List.getElem?_cons_zero, Nat.add_zero] at hc0 hc1 hc2 hc3
          have hkx : Hid (kidsOf s.σ x = n.k) := by simp only [Hid, kidsOf, hn]
          have hx1 : ((x : Int) != 0) = true := by simpa using hx0
          have hle := H.out.len
          have nk := neq_kids n.k k
          have gdk := guard_kids n.k k
          clear hn hnn hx0
          by_cases hkk : n.k = k
          · have hdk : decide (n.k = k) = true := by simpa using hkk
            have HK := Lib.hid hkk
            clear hkk
            go_wp2_with fail
            go_quiet (fail)
            go_wp2
            go_ret
            refine ⟨⟨i, rfl, hil, d, by omega, HI.out, HB.out, Or.inr ?_⟩, HFin.out _ (below_drewN hbel _)⟩
            rw [← HX.out, hkx.out, HK.out]
          · have hdk : decide (n.k = k) = false := by simpa using hkk
            have HK := Lib.hid hkk
            clear hkk
            go_wp2_with fail
            go_quiet (fail)
            have hne : d ≠ f := by
              intro e
              have h0 := HF.out
              rw [← e, ← HI.out, ← HX.out] at h0
              simp [h0] at hx1
            have hnx : Hid (((i : Int) + 1).tmod s.tab.length = ((pos k s.tab.length + (d + 1)) % s.tab.length : Nat)) := by
              simp only [Hid]; rw [HI.out]; exact Bv.next_eq (by omega)
            go_wp2
            go_roundg (gk - 1)
            case measure => omega
            case rel =>
              refine ⟨d + 1, by omega, by rw [← hnx.out, Int.tmod_eq_emod_of_nonneg (by omega)], ?_, below_drewN hbel _⟩
              intro e he
              rcases Nat.lt_or_ge e d with h | h
              · exact HB.out e h
              · obtain rfl : e = d := by omega
                rw [← HI.out, ← HX.out, hkx.out]
                exact ⟨by simpa using hx1, HK.out⟩
end Go.Proofs.Ytkelfgigigcnjaa
