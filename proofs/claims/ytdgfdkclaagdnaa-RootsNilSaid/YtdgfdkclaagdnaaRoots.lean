import Derived.Test.YtdgfdkclaagdnaaRows
import Derived.Test.YtdgfdkclaagdnaaMapAt
import Derived.Test.YtdgfdkclaagdnaaReg
import Derived.Test.YtdgfdkclaagdnaaErr
namespace Go.Proofs.Ytdgfdkclaagdnaa
open Go.RowKit Go.Bv
theorem zero116 (w : World) : (zeroValue 116).run Try.prog w = .ok (.agg #[.int .u32 0, .int .i64 0]) w := by kernel_rfl

set_option linter.unusedVariables false
theorem field0 (x h : Int) (w : World) : (Instr.field 116 (.agg #[.int .u32 x, .int .i64 h]) 0).run Try.prog w = .ok (.int .u32 x) w := by kernel_rfl
theorem field1 (x h : Int) (w : World) : (Instr.field 116 (.agg #[.int .u32 x, .int .i64 h]) 1).run Try.prog w = .ok (.int .i64 h) w := by kernel_rfl
/-- Roots in memory: its three cells, and its map's block. -/
structure RootsAt (w : World) (b mb : Nat) (m : Array MapEntry × Nat) (last most : Int) : Prop where
  c0 : w.cell? ⟨b, 0, none⟩ = some (.map (some mb))
  c1 : w.cell? ⟨b, 1, none⟩ = some (.int .i64 last)
  c2 : w.cell? ⟨b, 2, none⟩ = some (.int .i64 most)
  f1 : w.frozen? ⟨b, 1, none⟩ = false
  hm : mapAt w mb = some m
  ok : ∀ x ∈ m.1.toList, IntOf .i64 x.key

theorem put_ok {q : IntKind} {a : Int} {v : Value} {m : Array MapEntry × Nat} (h : ∀ x ∈ m.1.toList, IntOf q x.key) : ∀ x ∈ (mput intEq (.int q a) v m).1.toList, IntOf q x.key := by
  intro x hx
  unfold mput at hx
  split at hx
  · simp only [Array.toList_modify] at hx
    obtain ⟨i, hi⟩ := List.mem_iff_getElem?.1 hx
    rw [List.getElem?_modify] at hi
    split at hi
    · rcases hh : (m.1.toList)[i]? with _ | y
      · simp [hh] at hi
      · simp [hh] at hi; rw [← hi]; exact ⟨a, rfl⟩
    · rcases hh : (m.1.toList)[i]? with _ | y
      · simp [hh] at hi
      · simp [hh] at hi; rw [← hi]; exact h y (List.mem_of_getElem? hh)
  · simp only [Array.toList_push, List.mem_append, List.mem_singleton] at hx
    rcases hx with hx | rfl
    · exact h x hx
    · exact ⟨a, rfl⟩
theorem del_ok {q : IntKind} {k : Value} {m : Array MapEntry × Nat} (h : ∀ x ∈ m.1.toList, IntOf q x.key) : ∀ x ∈ (mdel intEq k m).1.toList, IntOf q x.key := by
  intro x hx
  unfold mdel at hx
  split at hx
  · simp only [Array.toList_eraseIdxIfInBounds] at hx
    exact h x (List.mem_of_mem_eraseIdx hx)
  · exact h x hx

set_option maxRecDepth 100000 in
set_option maxHeartbeats 400000 in
theorem new_any (B : Nat) (w : World) (n : Int) (hB : B ≤ w.heap.size) :
    Calls Try.prog 54 #[.int .i64 n] w fun e w' => e = .returned (.pointer (some ⟨w.heap.size + 1, 0, none⟩)) ∧ RootsAt w' (w.heap.size + 1) w.heap.size (#[], 0) 0 n ∧ Below B w w' := by
  have hmm := @run_makeMap Try.prog
  go_enter Try.func54, Try.ntmps54
  go_wp2
  go_ret
  refine ⟨rfl, ⟨by go_simp, by go_simp, by go_simp, by go_simp, by go_simp, by simp⟩, ((Below.refl _ _).alloc hB _).alloc (by simp; omega) _⟩

set_option maxRecDepth 100000 in
set_option maxHeartbeats 400000 in
theorem put_any (B : Nat) (w : World) (b mb : Nat) (m : Array MapEntry × Nat) (last most x : Int) (h : RootsAt w b mb m last most) (hb : B ≤ b) (hmb : B ≤ mb)
   (hlt : (m.1.size : Int) < most) (hl : 0 ≤ last) (hl2 : last < 1000000) :
    Calls Try.prog 27 #[.pointer (some ⟨b, 0, none⟩), .int .u32 x] w fun e w' => e = .returned (.tuple #[.int .i64 (last+1), .nilIface]) ∧
      RootsAt w' b mb (mput intEq (.int .i64 (last+1)) (.agg #[.int .u32 x, .int .i64 1]) m) (last + 1) most ∧ Below B w w' := by
  obtain ⟨c0, c1, c2, f1, hm, hok⟩ := h
  have hlen := fun (w1 : World) (h : mapAt w1 mb = some m) => run_len_at (P := Try.prog) (ty := 3) Try.underlying112 h
  have hup := fun (w1 : World) (a : Int) (v : Value) (h : mapAt w1 mb = some m) => run_mapUpdate_at (P := Try.prog) (KeyEq.int Try.underlying60) Try.underlying112 h ⟨a, rfl⟩ hok v
  have HOK := Lib.hid hok
  clear hok
  go_enter Try.func27, Try.ntmps27
  go_wp2
  refine still_all mix (by kernel_rfl) ?_
  repeat still_step
  refine wpStill_nil ?_
  go_wp2
  refine still_tail 10 mix (by kernel_rfl) ?_
  simp only [List.take_succ_cons, List.take_zero, List.drop_succ_cons, List.drop_zero]
  repeat still_step
  refine wpStill_nil ?_
  go_wp2
  go_ret2
  refine ⟨rfl, ⟨by go_simp, by go_simp, by go_simp, by go_simp, ?_, put_ok HOK.out⟩, below_setMap (((Below.refl _ _).setCell hb _).drew.drew) hmb _⟩
  exact mapAt_setMap_same _ _ _ (by simpa using mapAt_lt hm)

set_option maxRecDepth 100000 in
set_option maxHeartbeats 400000 in
theorem get_any (B : Nat) (w : World) (b mb : Nat) (m : Array MapEntry × Nat) (last most k : Int) (h : RootsAt w b mb m last most) (hb : B ≤ b) (hmb : B ≤ mb) (hB : B ≤ w.heap.size)
   (x held : Int) (g : Bool) (hg : (mfind intEq (.int .i64 k) m.1.toList 0).isSome = g) (hx : ((mfind intEq (.int .i64 k) m.1.toList 0).map (·.2)).getD (.agg #[.int .u32 0, .int .i64 0]) = .agg #[.int .u32 x, .int .i64 held]) :
    Calls Try.prog 28 #[.pointer (some ⟨b, 0, none⟩), .int .i64 k] w fun e w' => e = .returned (.tuple #[.int .u32 x, .bool g]) ∧
      RootsAt w' b mb m last most ∧ Below B w w' := by
  obtain ⟨c0, c1, c2, f1, hm, hok⟩ := h
  have hlk : ∀ (w1 : World), mapAt w1 mb = some m → (Instr.lookup 112 (.map (some mb)) (.int .i64 k) true).run Try.prog w1 = .ok (.tuple #[.agg #[.int .u32 x, .int .i64 held], .bool g]) w1 := fun w1 h => by
    rw [run_lookup_at (P := Try.prog) (KeyEq.int Try.underlying60) Try.underlying112 (zero116 w1) h ⟨k, rfl⟩ hok true, hx, hg]; rfl
  have HOK := Lib.hid hok
  have hbl := World.block_lt_of_cell? _ _ c0
  have hml := mapAt_lt hm
  clear hok hg hx
  go_enter Try.func28, Try.ntmps28
  go_wp2
  go_ret2
  refine ⟨rfl, ⟨by go_simp, by go_simp, by go_simp, by go_simp, by go_simp, HOK.out⟩, ?_⟩
  repeat first | exact Below.refl _ _ | refine Below.drew ?_ | refine Below.alloc ?_ (by first | omega | (simp; omega)) _ | refine Below.setCell ?_ (by first | omega | (simp; omega)) _

set_option maxRecDepth 100000 in
set_option maxHeartbeats 400000 in
theorem take_any (B : Nat) (w : World) (b mb : Nat) (m : Array MapEntry × Nat) (last most k : Int) (h : RootsAt w b mb m last most) (hb : B ≤ b) (hmb : B ≤ mb) (hB : B ≤ w.heap.size)
   (x held : Int) (i : Nat) (hf : mfind intEq (.int .i64 k) m.1.toList 0 = some (i, .agg #[.int .u32 x, .int .i64 held])) (h0 : 0 ≤ held) (h1 : held < 1000000) :
    Calls Try.prog 31 #[.pointer (some ⟨b, 0, none⟩), .int .i64 k] w fun e w' => e = .returned .nilIface ∧
      RootsAt w' b mb (mput intEq (.int .i64 k) (.agg #[.int .u32 x, .int .i64 (held + 1)]) m) last most ∧ Below B w w' := by
  have hg := get_any B w b mb m last most k h hb hmb hB x held true (by rw [hf]; rfl) (by rw [hf]; rfl)
  have hok := h.ok
  have hlk : ∀ (w1 : World), mapAt w1 mb = some m → (Instr.lookup 112 (.map (some mb)) (.int .i64 k) false).run Try.prog w1 = .ok (.agg #[.int .u32 x, .int .i64 held]) w1 := fun w1 h => by
    rw [run_lookup_at (P := Try.prog) (KeyEq.int Try.underlying60) Try.underlying112 (zero116 w1) h ⟨k, rfl⟩ hok false, hf]; rfl
  have hup := fun (w1 : World) (v : Value) (h : mapAt w1 mb = some m) => run_mapUpdate_at (P := Try.prog) (k := .int .i64 k) (KeyEq.int Try.underlying60) Try.underlying112 h ⟨k, rfl⟩ hok v
  have HOK := Lib.hid hok
  have HG := Lib.hid hg
  have fd0 := field0
  have fd1 := field1
  clear hok hf hg h
  go_enter Try.func31, Try.ntmps31
  go_wp2_with (go_at_call 28; refine HG.out.mono ?_; rintro e w1 ⟨rfl, ⟨c0, c1, c2, f1, hm, hok⟩, hbel⟩; clear hok)
  refine still_last mix (by kernel_rfl) ?_
  simp only [List.length_cons, List.length_nil, Nat.reduceAdd, Nat.reduceSub, List.take_succ_cons, List.take_zero, List.drop_succ_cons, List.drop_zero]
  repeat still_step
  refine wpStill_nil ?_
  go_wp2
  go_ret
  refine ⟨rfl, ⟨by go_simp, by go_simp, by go_simp, by go_simp, ?_, put_ok HOK.out⟩, below_setMap (Below.drew hbel) hmb _⟩
  exact mapAt_setMap_same _ _ _ (by simpa using mapAt_lt hm)

set_option maxRecDepth 100000 in
set_option maxHeartbeats 400000 in
/-- Drop of a root that is held more than once. -/
theorem drop_less (B : Nat) (w : World) (b mb : Nat) (m : Array MapEntry × Nat) (last most k : Int) (h : RootsAt w b mb m last most) (hb : B ≤ b) (hmb : B ≤ mb) (hB : B ≤ w.heap.size)
   (x held : Int) (i : Nat) (hf : mfind intEq (.int .i64 k) m.1.toList 0 = some (i, .agg #[.int .u32 x, .int .i64 held])) (h0 : 1 < held) (h1 : held < 1000000) :
    Calls Try.prog 32 #[.pointer (some ⟨b, 0, none⟩), .int .i64 k] w fun e w' => e = .returned .nilIface ∧
      RootsAt w' b mb (mput intEq (.int .i64 k) (.agg #[.int .u32 x, .int .i64 (held - 1)]) m) last most ∧ Below B w w' := by
  have hg := get_any B w b mb m last most k h hb hmb hB x held true (by rw [hf]; rfl) (by rw [hf]; rfl)
  have hok := h.ok
  have hlk : ∀ (w1 : World), mapAt w1 mb = some m → (Instr.lookup 112 (.map (some mb)) (.int .i64 k) false).run Try.prog w1 = .ok (.agg #[.int .u32 x, .int .i64 held]) w1 := fun w1 h => by
    rw [run_lookup_at (P := Try.prog) (KeyEq.int Try.underlying60) Try.underlying112 (zero116 w1) h ⟨k, rfl⟩ hok false, hf]; rfl
  have hup := fun (w1 : World) (v : Value) (h : mapAt w1 mb = some m) => run_mapUpdate_at (P := Try.prog) (k := .int .i64 k) (KeyEq.int Try.underlying60) Try.underlying112 h ⟨k, rfl⟩ hok v
  have HOK := Lib.hid hok
  have HG := Lib.hid hg
  have hbl := World.block_lt_of_cell? _ _ h.c0
  have hml := mapAt_lt h.hm
  clear hok hf hg h
  go_enter Try.func32, Try.ntmps32
  go_wp2_with (first | (go_at_call 28; refine HG.out.mono ?_; rintro e w1 ⟨rfl, ⟨c0, c1, c2, f1, hm, hok⟩, hbel⟩; clear hok; have hsz := hbel.size; have hbl1 := World.block_lt_of_cell? _ _ c0; have hml1 := mapAt_lt hm) | (refine still_last mix (by decide +kernel) ?_; simp only [List.length_cons, List.length_nil, Nat.reduceAdd, Nat.reduceSub, List.take_succ_cons, List.take_zero, List.drop_succ_cons, List.drop_zero]; (repeat still_step); refine wpStill_nil ?_))
  go_ret
  refine ⟨rfl, ⟨by go_simp, by go_simp, by go_simp, by go_simp, ?_, put_ok HOK.out⟩, below_setMap (Below.drew (hbel.alloc (by omega) _)) hmb _⟩
  exact mapAt_setMap_same _ _ _ (by simp; omega)

set_option maxRecDepth 100000 in
set_option maxHeartbeats 400000 in
/-- Drop of a root that is held once. -/
theorem drop_last (B : Nat) (w : World) (b mb : Nat) (m : Array MapEntry × Nat) (last most k : Int) (h : RootsAt w b mb m last most) (hb : B ≤ b) (hmb : B ≤ mb) (hB : B ≤ w.heap.size)
   (x : Int) (i : Nat) (hf : mfind intEq (.int .i64 k) m.1.toList 0 = some (i, .agg #[.int .u32 x, .int .i64 1])) :
    Calls Try.prog 32 #[.pointer (some ⟨b, 0, none⟩), .int .i64 k] w fun e w' => e = .returned .nilIface ∧
      RootsAt w' b mb (mdel intEq (.int .i64 k) m) last most ∧ Below B w w' := by
  have hg := get_any B w b mb m last most k h hb hmb hB x 1 true (by rw [hf]; rfl) (by rw [hf]; rfl)
  have hok := h.ok
  have hlk : ∀ (w1 : World), mapAt w1 mb = some m → (Instr.lookup 112 (.map (some mb)) (.int .i64 k) false).run Try.prog w1 = .ok (.agg #[.int .u32 x, .int .i64 1]) w1 := fun w1 h => by
    rw [run_lookup_at (P := Try.prog) (KeyEq.int Try.underlying60) Try.underlying112 (zero116 w1) h ⟨k, rfl⟩ hok false, hf]; rfl
  have hdl := fun (w1 : World) (h : mapAt w1 mb = some m) => run_delete_at (P := Try.prog) (kt' := 60) (ty := 0) (k := .int .i64 k) (KeyEq.int Try.underlying60) Try.underlying112 h ⟨k, rfl⟩ hok
  have HOK := Lib.hid hok
  have HG := Lib.hid hg
  have hbl := World.block_lt_of_cell? _ _ h.c0
  have hml := mapAt_lt h.hm
  clear hok hf hg h
  go_enter Try.func32, Try.ntmps32
  go_wp2_with (first | (go_at_call 28; refine HG.out.mono ?_; rintro e w1 ⟨rfl, ⟨c0, c1, c2, f1, hm, hok⟩, hbel⟩; clear hok; have hsz := hbel.size; have hbl1 := World.block_lt_of_cell? _ _ c0; have hml1 := mapAt_lt hm) | (refine still_last mix (by decide +kernel) ?_; simp only [List.length_cons, List.length_nil, Nat.reduceAdd, Nat.reduceSub, List.take_succ_cons, List.take_zero, List.drop_succ_cons, List.drop_zero]; (repeat still_step); refine wpStill_nil ?_))
  go_ret
  refine ⟨rfl, ⟨by go_simp, by go_simp, by go_simp, by go_simp, ?_, del_ok HOK.out⟩, below_setMap (hbel.alloc (by omega) _) hmb _⟩
  exact mapAt_setMap_same _ _ _ (by simp; omega)

set_option maxRecDepth 100000 in
set_option maxHeartbeats 400000 in
theorem lives_roots (w : World) :
    Calls Try.prog 26 #[] w fun e w' => e = .returned (.bool true) ∧ Below w.heap.size w w' := by
  go_enter Try.func26, Try.ntmps26
  go_wp2_with fail
  refine (new_any w.heap.size w 2 (Nat.le_refl _)).mono ?_
  rintro e w1 ⟨rfl, r1, b1⟩
  have s1 := b1.size
  go_wp2_with fail
  refine (put_any w.heap.size w1 _ _ _ _ _ _ r1 (by omega) (by omega) (by decide) (by decide) (by decide)).mono ?_
  rintro e w2 ⟨rfl, r2, b2⟩
  have s2 := b2.size
  go_wp2_with fail
  refine (take_any w.heap.size w2 _ _ _ _ _ _ r2 (by omega) (by omega) (by omega) 7 1 0 rfl (by decide) (by decide)).mono ?_
  rintro e w3 ⟨rfl, r3, b3⟩
  have s3 := b3.size
  go_wp2_with fail
  refine (drop_less w.heap.size w3 _ _ _ _ _ _ r3 (by omega) (by omega) (by omega) 7 2 0 rfl (by decide) (by decide)).mono ?_
  rintro e w4 ⟨rfl, r4, b4⟩
  have s4 := b4.size
  go_wp2_with fail
  refine (get_any w.heap.size w4 _ _ _ _ _ _ r4 (by omega) (by omega) (by omega) 7 1 true rfl rfl).mono ?_
  rintro e w5 ⟨rfl, r5, b5⟩
  have s5 := b5.size
  go_wp2_with fail
  refine (drop_last w.heap.size w5 _ _ _ _ _ _ r5 (by omega) (by omega) (by omega) 7 0 rfl).mono ?_
  rintro e w6 ⟨rfl, r6, b6⟩
  have s6 := b6.size
  go_wp2_with fail
  refine (get_any w.heap.size w6 _ _ _ _ _ _ r6 (by omega) (by omega) (by omega) 0 0 false (by simp [mdel, mput, mfind, intEq]) (by simp [mdel, mput, mfind, intEq])).mono ?_
  rintro e w7 ⟨rfl, r7, b7⟩
  have s7 := b7.size
  go_wp2
  go_ret
  exact ⟨rfl, ((((((b1.trans b2).trans b3).trans b4).trans b5).trans b6).trans b7)⟩

set_option maxRecDepth 100000 in
set_option maxHeartbeats 400000 in
theorem change_nil (w : World) : Calls Try.prog 29 #[.pointer none, .nilFunc] w fun e w' => e = .returned (.tuple #[]) ∧ w = w' := by
  go_enter Try.func29, Try.ntmps29
  go_wp2
  refine wp_loop_rounds 1 ?_
  rw [rounds_succ]
  go_wp2
  go_end0
  exact ⟨rfl, rfl⟩

set_option maxRecDepth 100000 in
set_option maxHeartbeats 400000 in
theorem insertion_nil (w : World) : Calls Try.prog 106 #[.slice none 0 0, .int .i64 0, .int .i64 0] w fun e w' => e = .returned (.tuple #[]) ∧ w = w' := by
  go_enter Try.func106, Try.ntmps106
  go_wp2
  refine wp_loop_rounds 1 ?_
  rw [rounds_succ]
  go_wp2
  go_end0
  exact ⟨rfl, rfl⟩

set_option maxRecDepth 100000 in
set_option maxHeartbeats 400000 in
theorem pdq_nil (k : Int) (w : World) : Calls Try.prog 78 #[.slice none 0 0, .int .i64 0, .int .i64 0, .int .i64 k] w fun e w' => e = .returned (.tuple #[]) ∧ w = w' := by
  go_enter Try.func78, Try.ntmps78
  go_wp2
  refine wp_loop_rounds 1 ?_
  rw [rounds_succ]
  go_wp2_with (go_at_call 106; refine (insertion_nil _).mono ?_; rintro e w1 ⟨rfl, rfl⟩)
  refine bodyPost_ret (results_none rfl _ _ _) rfl ?_
  exact ⟨rfl, rfl⟩

set_option maxRecDepth 100000 in
set_option maxHeartbeats 400000 in
theorem sort_nil (w : World) : Calls Try.prog 57 #[.slice none 0 0] w fun e w' => e = .returned (.tuple #[]) ∧ w = w' := by
  go_enter Try.func57, Try.ntmps57
  go_wp2_with (first | (go_at_call 78; refine (pdq_nil _ _).mono ?_; rintro e w1 ⟨rfl, rfl⟩) | go_in)
  go_end0
  exact ⟨rfl, rfl⟩

set_option maxRecDepth 100000 in
set_option maxHeartbeats 400000 in
theorem compact_nil (w : World) : Calls Try.prog 58 #[.slice none 0 0] w fun e w' => e = .returned (.slice none 0 0) ∧ w = w' := by
  go_enter Try.func58, Try.ntmps58
  go_wp2
  go_ret
  exact ⟨rfl, rfl⟩

set_option maxRecDepth 100000 in
set_option maxHeartbeats 400000 in
theorem squares_nil (w : World) : Calls Try.prog 35 #[.pointer none] w fun e w' => e = .returned (.slice none 0 0) ∧ w = w' := by
  go_enter Try.func35, Try.ntmps35
  go_wp2
  refine wp_loop_rounds 1 ?_
  rw [rounds_succ]
  go_wp2_with (first | (go_at_call 57; refine (sort_nil _).mono ?_; rintro e w1 ⟨rfl, rfl⟩) | (go_at_call 58; refine (compact_nil _).mono ?_; rintro e w2 ⟨rfl, rfl⟩))
  go_ret
  exact ⟨rfl, rfl⟩

set_option maxRecDepth 100000 in
set_option maxHeartbeats 1000000 in
theorem roots_nil (a0 : Int) (w : World) :
    Calls Try.prog 6 #[.int .i64 a0] w fun e w' => e = .returned (.bool true) ∧ Below w.heap.size w w' := by
  go_enter Try.func6, Try.ntmps6
  go_wp2_with (first | (go_at_call 26; refine (lives_roots _).mono ?_; rintro e w1 ⟨rfl, b1⟩; have s1 := b1.size) | (go_at_call 29; refine (change_nil _).mono ?_; rintro e w2 ⟨rfl, rfl⟩) | (go_at_call 35; refine (squares_nil _).mono ?_; rintro e w3 ⟨rfl, rfl⟩) | (go_at_call 8; refine (fis_new _ _ _ _ ?_ ?_).mono ?_; decide; simp; rintro e w4 ⟨rfl, rfl⟩) | (refine still_all mix (by decide +kernel) ?_; (repeat still_step); refine wpStill_nil ?_) | go_in)
  go_ret
  refine ⟨rfl, ?_⟩
  repeat first | exact b1 | refine Below.drew ?_ | refine Below.alloc ?_ (by first | omega | (simp; omega)) _
end Go.Proofs.Ytdgfdkclaagdnaa
