/-
  The store's Make whole, and Empty.
-/
import Derived.Test.YtkelfgigigcnjaaStN
namespace Go.Proofs.Ytkelfgigigcnjaa
open Go.RowKit Go.Bv

theorem Made.of_below {w w' : World} {b : Nat} {s : SV} (h : StoreAt w b s) (hb : Below w.heap.size w w') : Made w w' b s s.σ s :=
  ⟨h.below hb, rfl, rfl, rfl, .inl rfl, Only.of_below hb⟩
theorem Only.through {F G : List Nat} {a b c : World} (h : Only F a b) (k : Only G b c) (hG : ∀ x ∈ G, x ∈ F ∨ a.heap.size ≤ x) : Only F a c :=
  ⟨k.os.trans h.os, k.tape.trans h.tape, k.output.trans h.output, Nat.le_trans h.size k.size, fun i hi hn => (k.block i (Nat.lt_of_lt_of_le hi h.size) (fun hm => by
    rcases hG i hm with h1 | h1
    · exact hn h1
    · omega)).trans (h.block i hi hn)⟩
theorem Made.trans {w w1 w2 : World} {b : Nat} {s s1 s2 : SV} {σ τ : List Nd} (h : Made w w1 b s σ s1) (k : Made w1 w2 b s1 τ s2) : Made w w2 b s τ s2 :=
  ⟨k.at', k.σ, k.most.trans h.most, k.tb.trans h.tb, by
    have := h.only.size
    rcases k.nb with e | e
    · rcases h.nb with e' | e'
      · exact .inl (e.trans e')
      · exact .inr (by omega)
    · exact .inr (by omega), h.only.through k.only (by
    intro x hx
    simp only [foot, List.mem_cons, List.not_mem_nil, or_false] at hx ⊢
    rcases hx with rfl | rfl | rfl
    · exact .inl (.inl rfl)
    · rcases h.nb with e | e
      · exact .inl (.inr (.inl e))
      · exact .inr e
    · exact .inl (.inr (.inr h.tb)))⟩
theorem Made.below {w w1 w2 : World} {b : Nat} {s s1 : SV} {σ : List Nd} (h : Made w w1 b s σ s1) (hb : Below w1.heap.size w1 w2) : Made w w2 b s σ s1 := by
  have := h.trans (Made.of_below h.at' hb)
  rw [h.σ] at this
  exact this
/-- A store's value anew, of the same store. -/
theorem Made.lt {w w1 : World} {b : Nat} {s s1 : SV} {σ : List Nd} (h : Made w w1 b s σ s1) : b < w1.heap.size := h.at'.lt

theorem make_st (w : World) (b : Nat) (s : SV) (k : K4) (h : StoreAt w b s) (ha : k.a < 4294967296) (hb : k.b < 4294967296) (hc : k.c < 4294967296) (hd : k.d < 4294967296) :
    Calls Try.prog 83 #[.pointer (some ⟨b, 0, none⟩), kval k] w fun e w' =>
      e = .returned (.tuple #[.int .u32 (mk s.σ s.most k).2.1, errv (mk s.σ s.most k).2.2]) ∧ ∃ s', Made w w' b s (mk s.σ s.most k).1 s' := by
  by_cases hk : okK s.σ k = true
  · by_cases hn : findK s.σ k = none ∧ s.σ.length < s.most
    · refine (make_new w b s k h ha hb hc hd hk hn.1 hn.2).mono ?_
      rintro e w' ⟨he, hm⟩
      have hmk : mk s.σ s.most k = (s.σ ++ [mkNd s.σ k], s.σ.length, 0) := by simp [mk, hk, hn.1, hn.2]
      rw [hmk]
      exact ⟨he, hm⟩
    · have hor : findK s.σ k ≠ none ∨ s.most ≤ s.σ.length := by
        by_cases h1 : findK s.σ k = none
        · exact .inr (by have : ¬ s.σ.length < s.most := fun h2 => hn ⟨h1, h2⟩; omega)
        · exact .inl h1
      refine (make_old w b s k h ha hb hc hd hk hor).mono ?_
      rintro e w' ⟨he, hb'⟩
      have hmk : (mk s.σ s.most k).1 = s.σ := by
        unfold mk
        rw [if_pos hk]
        cases hf : findK s.σ k with
        | some x => rfl
        | none =>
          have : ¬ s.σ.length < s.most := by rcases hor with h1 | h1; exact absurd hf h1; omega
          simp [this]
      rw [hmk]
      exact ⟨he, s, Made.of_below h hb'⟩
  · have hk' : okK s.σ k = false := by simpa using hk
    refine (make_bad w b s k h ha hb hc hd hk').mono ?_
    rintro e w' ⟨he, hb'⟩
    have hmk : mk s.σ s.most k = (s.σ, 0, 1) := by simp [mk, hk']
    rw [hmk]
    exact ⟨he, s, Made.of_below h hb'⟩

theorem mk_fail {σ : List Nd} {most : Nat} {k : K4} (h : (mk σ most k).2.2 ≠ 0) : (mk σ most k).2.1 = 0 := by
  revert h; unfold mk
  split
  · split
    · simp
    · split <;> simp
  · simp
theorem make_ok (w : World) (b : Nat) (s : SV) (k : K4) (h : StoreAt w b s) (ha : k.a < 4294967296) (hb : k.b < 4294967296) (hc : k.c < 4294967296) (hd : k.d < 4294967296) (hz : (mk s.σ s.most k).2.2 = 0) :
    Calls Try.prog 83 #[.pointer (some ⟨b, 0, none⟩), kval k] w fun e w' =>
      e = .returned (.tuple #[.int .u32 (mk s.σ s.most k).2.1, .nilIface]) ∧ ∃ s', Made w w' b s (mk s.σ s.most k).1 s' := by
  refine (make_st w b s k h ha hb hc hd).mono ?_
  rintro e w' ⟨he, hm⟩
  refine ⟨?_, hm⟩
  rw [he, hz]; rfl
theorem make_err (w : World) (b : Nat) (s : SV) (k : K4) (h : StoreAt w b s) (ha : k.a < 4294967296) (hb : k.b < 4294967296) (hc : k.c < 4294967296) (hd : k.d < 4294967296) (hz : (mk s.σ s.most k).2.2 ≠ 0) :
    Calls Try.prog 83 #[.pointer (some ⟨b, 0, none⟩), kval k] w fun e w' =>
      e = .returned (.tuple #[.int .u32 0, .iface 67 (.int .i64 ((mk s.σ s.most k).2.2 : Nat))]) ∧ ∃ s', Made w w' b s (mk s.σ s.most k).1 s' := by
  refine (make_st w b s k h ha hb hc hd).mono ?_
  rintro e w' ⟨he, hm⟩
  refine ⟨?_, hm⟩
  rw [he, mk_fail hz]; simp [errv, hz]

/-- Empty: the squares then, the number, the error's number. -/
def emp (σ : List Nd) (most : Nat) : Nat → List Nd × Nat × Nat
  | 0 => (σ, 0, 0)
  | n + 1 => if (emp σ most n).2.2 = 0 then mk (emp σ most n).1 most ⟨(emp σ most n).2.1, (emp σ most n).2.1, (emp σ most n).2.1, (emp σ most n).2.1⟩ else (emp σ most n)

theorem findK_mem {σ : List Nd} {k : K4} {x : Nat} (h : findK σ k = some x) : 2 ≤ x ∧ x < σ.length ∧ kidsOf σ x = k := by
  unfold findK at h
  have h1 := List.mem_of_find?_eq_some h
  have h2 := List.find?_some h
  simp at h1 h2
  exact ⟨h2.1, h1, h2.2⟩
theorem findK_none' {σ : List Nd} {k : K4} (h : findK σ k = none) : ∀ x, 2 ≤ x → x < σ.length → kidsOf σ x ≠ k := by
  intro x hx hl hk
  unfold findK at h
  rw [List.find?_eq_none] at h
  have := h x (by simpa using hl)
  simp [hx, hk] at this
theorem mk_ok {σ : List Nd} {most : Nat} {k : K4} (h : okK σ k = true) : mk σ most k = match findK σ k with
    | some x => (σ, x, 0)
    | none => if σ.length < most then (σ ++ [mkNd σ k], σ.length, 0) else (σ, 0, 7) := by
  unfold mk; rw [if_pos h]; cases findK σ k <;> rfl
theorem mk_cases (σ : List Nd) (most : Nat) (k : K4) :
    (okK σ k = false ∧ mk σ most k = (σ, 0, 1)) ∨ (okK σ k = true ∧ ∃ x, 2 ≤ x ∧ x < σ.length ∧ kidsOf σ x = k ∧ findK σ k = some x ∧ mk σ most k = (σ, x, 0)) ∨
      (okK σ k = true ∧ findK σ k = none ∧ σ.length < most ∧ mk σ most k = (σ ++ [mkNd σ k], σ.length, 0)) ∨ (okK σ k = true ∧ findK σ k = none ∧ most ≤ σ.length ∧ mk σ most k = (σ, 0, 7)) := by
  by_cases hk : okK σ k = true
  · right
    cases hf : findK σ k with
    | some x =>
      obtain ⟨h1, h2, h3⟩ := findK_mem hf
      exact .inl ⟨hk, x, h1, h2, h3, rfl, by rw [mk_ok hk, hf]⟩
    | none =>
      right
      by_cases hl : σ.length < most
      · exact .inl ⟨hk, rfl, hl, by rw [mk_ok hk, hf]; simp [hl]⟩
      · exact .inr ⟨hk, rfl, by omega, by rw [mk_ok hk, hf]; simp [hl]⟩
  · have : okK σ k = false := by simpa using hk
    exact .inl ⟨this, by simp [mk, this]⟩
theorem mk_lt (σ : List Nd) (most : Nat) (k : K4) (h : Wf σ) : (mk σ most k).2.1 < (mk σ most k).1.length := by
  have := h.two
  rcases mk_cases σ most k with ⟨_, e⟩ | ⟨_, x, _, _, _, _, e⟩ | ⟨_, _, _, e⟩ | ⟨_, _, _, e⟩ <;> rw [e] <;> simp <;> omega
theorem Wf_mk {σ : List Nd} (h : Wf σ) (most : Nat) (k : K4) : Wf (mk σ most k).1 := by
  rcases mk_cases σ most k with ⟨_, e⟩ | ⟨_, x, _, _, _, _, e⟩ | ⟨hk, hf, _, e⟩ | ⟨_, _, _, e⟩ <;> rw [e]
  · exact h
  · exact h
  · exact h.push hk (findK_none' hf)
  · exact h
theorem Wf_emp {σ : List Nd} (h : Wf σ) (most : Nat) : ∀ n, Wf (emp σ most n).1
  | 0 => h
  | n + 1 => by
    rw [Go.Proofs.Ytkelfgigigcnjaa.emp]
    split
    · exact Wf_mk (Wf_emp h most n) _ _
    · exact Wf_emp h most n
theorem emp_lt {σ : List Nd} (h : Wf σ) (most : Nat) : ∀ n, (emp σ most n).2.1 < (emp σ most n).1.length
  | 0 => by have := h.two; simp [Go.Proofs.Ytkelfgigigcnjaa.emp]; omega
  | n + 1 => by
    rw [Go.Proofs.Ytkelfgigigcnjaa.emp]
    split
    · exact mk_lt _ _ _ (Wf_emp h most n)
    · exact emp_lt h most n
theorem emp_fail {σ : List Nd} {most n : Nat} (h : (emp σ most n).2.2 ≠ 0) : ∀ m, n ≤ m → emp σ most m = emp σ most n
  | 0, hm => by have : n = 0 := by omega
                subst this; rfl
  | m + 1, hm => by
    by_cases e : n = m + 1
    · rw [e]
    · have ih := emp_fail h m (by omega)
      rw [emp, ih, if_neg h]
theorem mk_err (σ : List Nd) (most : Nat) (k : K4) : (mk σ most k).2.2 = 0 ∨ (mk σ most k).2.2 = 1 ∨ (mk σ most k).2.2 = 7 := by
  unfold mk
  split
  · split
    · simp
    · split <;> simp
  · simp
theorem emp_fail0 {σ : List Nd} {most : Nat} : ∀ n, (emp σ most n).2.2 ≠ 0 → (emp σ most n).2.1 = 0
  | 0, h => by simp [emp] at h
  | n + 1, h => by
    rw [emp] at h ⊢
    split at h
    · rename_i h0; rw [if_pos h0]; exact mk_fail h
    · rename_i h0; rw [if_neg h0]; exact emp_fail0 n h0

set_option maxRecDepth 100000 in
set_option maxHeartbeats 1000000 in
theorem empty_st (w : World) (b : Nat) (s : SV) (n : Nat) (h : StoreAt w b s) (hn : n ≤ 62) :
    Calls Try.prog 79 #[.pointer (some ⟨b, 0, none⟩), .int .i64 n] w fun e w' =>
      e = .returned (.tuple #[.int .u32 (emp s.σ s.most n).2.1, errv (emp s.σ s.most n).2.2]) ∧ ∃ s', Made w w' b s (emp s.σ s.most n).1 s' := by
  have h0 : Hid (Made w w b s s.σ s) := Made.of_below h (Below.refl _ _)
  have h1 := Lib.hid h
  clear h
  go_enter Try.func79, Try.ntmps79
  go_wp2
  go_loopg [6, 21] n (fun g x i wr => ∃ d, d + g = n ∧ i = .int .i64 (d : Nat) ∧ x = .int .u32 ((emp s.σ s.most d).2.1 : Nat) ∧ (emp s.σ s.most d).2.2 = 0 ∧ ∃ s1, Made w wr b s (emp s.σ s.most d).1 s1)
  case atStart => exact ⟨0, by omega, rfl, rfl, rfl, s, h0.out⟩
  case round =>
    obtain ⟨d, hd, rfl, rfl, he0, s1, hm⟩ := hrel
    have hwf0 := h1.out.wf
    have hx : (emp s.σ s.most d).2.1 < 4294967296 := by
      have h2 := emp_lt hwf0 s.most d
      have h3 := hm.at'.len.2
      rw [hm.σ] at h3
      omega
    clear hwf0
    have HM := Lib.hid hm
    have HE := Lib.hid he0
    obtain ⟨x, hxe⟩ : ∃ x, x = (emp s.σ s.most d).2.1 := ⟨_, rfl⟩
    rw [← hxe] at hx ⊢
    have HX := Lib.hid hxe
    have hnext : Hid (d < n → emp s.σ s.most (d + 1) = mk s1.σ s1.most ⟨x, x, x, x⟩) := Lib.hid (fun _ => by
      rw [emp, if_pos he0, hm.σ, hm.most, hxe])
    clear hm he0 hxe
    by_cases hlt : d < n
    · by_cases hz : (mk s1.σ s1.most ⟨x, x, x, x⟩).2.2 = 0
      · have HZ := Lib.hid hz
        clear hz
        go_wp2_with (first | (go_at_call 83; refine (make_ok _ _ _ ⟨x, x, x, x⟩ HM.out.at' hx hx hx hx HZ.out).mono ?_; rintro e w1 ⟨rfl, s2, hm2⟩) | go_in)
        go_roundg (gk - 1)
        case measure => omega
        case rel =>
          exact ⟨d + 1, by omega, rfl, by rw [hnext.out hlt], by rw [hnext.out hlt]; exact HZ.out, s2, by rw [hnext.out hlt]; exact HM.out.trans hm2⟩
      · have HZ := Lib.hid hz
        clear hz
        go_wp2_with (first | (go_at_call 83; refine (make_err _ _ _ ⟨x, x, x, x⟩ HM.out.at' hx hx hx hx HZ.out).mono ?_; rintro e w1 ⟨rfl, s2, hm2⟩) | go_in)
        go_ret2
        have hfin : emp s.σ s.most n = mk s1.σ s1.most ⟨x, x, x, x⟩ := by
          rw [← hnext.out hlt]
          exact emp_fail (by rw [hnext.out hlt]; exact HZ.out) n (by omega)
        rw [hfin, mk_fail HZ.out]
        exact ⟨by simp [errv, HZ.out], s2, HM.out.trans hm2⟩
    · have hdn : d = n := by omega
      subst hdn
      go_wp2
      go_ret2
      rw [HE.out, ← HX.out]
      exact ⟨by rfl, s1, HM.out⟩
end Go.Proofs.Ytkelfgigigcnjaa
