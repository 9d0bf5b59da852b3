/-
  The store's squares as plain data: nodes, the table by open addressing, Make, Empty; no program in sight.
-/
import Derived.WalkKit
namespace Go.Bv

/-- Four numbers of squares. -/
structure K4 where
  a : Nat
  b : Nat
  c : Nat
  d : Nat
  deriving DecidableEq, Inhabited

/-- A square: its four, its level, how many of its cells are alive. -/
structure Nd where
  k : K4
  level : Nat
  alive : Nat
  deriving DecidableEq, Inhabited

/-- The two cells. -/
def nd0 : Nd := ⟨⟨0, 0, 0, 0⟩, 0, 0⟩
def nd1 : Nd := ⟨⟨0, 0, 0, 0⟩, 0, 1⟩

/-- A square's level; below 0: there is none. -/
def lev (σ : List Nd) (x : Nat) : Int := match σ[x]? with | some n => n.level | none => -1
/-- How many cells of a square are alive. -/
def cnt (σ : List Nd) (x : Nat) : Nat := match σ[x]? with | some n => n.alive | none => 0
def kidsOf (σ : List Nd) (x : Nat) : K4 := match σ[x]? with | some n => n.k | none => ⟨0, 0, 0, 0⟩

/-- A sum, or the greatest number. -/
def sat (a b : Nat) : Nat := if b > 18446744073709551615 - a then 18446744073709551615 else a + b
def sum4 (σ : List Nd) (k : K4) : Nat :=
  let s1 := cnt σ k.a
  if s1 + cnt σ k.b > 18446744073709551615 then 18446744073709551615 else
  let s2 := s1 + cnt σ k.b
  if s2 + cnt σ k.c > 18446744073709551615 then 18446744073709551615 else
  let s3 := s2 + cnt σ k.c
  if s3 + cnt σ k.d > 18446744073709551615 then 18446744073709551615 else s3 + cnt σ k.d

/-- The number of the square of four, if it is there. -/
def findK (σ : List Nd) (k : K4) : Option Nat := (List.range σ.length).find? fun x => decide (2 ≤ x) && decide (kidsOf σ x = k)

/-- May the four be a square's? -/
def okK (σ : List Nd) (k : K4) : Bool :=
  decide (0 ≤ lev σ k.a) && decide (lev σ k.a < 62) && decide (lev σ k.b = lev σ k.a) && decide (lev σ k.c = lev σ k.a) && decide (lev σ k.d = lev σ k.a)

def mkNd (σ : List Nd) (k : K4) : Nd := ⟨k, (lev σ k.a).toNat + 1, sum4 σ k⟩

/-- Make: the squares then, the number, the error's number. -/
def mk (σ : List Nd) (most : Nat) (k : K4) : List Nd × Nat × Nat :=
  if okK σ k then
    match findK σ k with
    | some x => (σ, x, 0)
    | none => if σ.length < most then (σ ++ [mkNd σ k], σ.length, 0) else (σ, 0, 7)
  else (σ, 0, 1)

/-- What holds of every store's squares. -/
structure Wf (σ : List Nd) : Prop where
  two : 2 ≤ σ.length
  n0 : σ[0]? = some nd0
  n1 : σ[1]? = some nd1
  kids : ∀ (x : Nat) (n : Nd), 2 ≤ x → σ[x]? = some n → n.k.a < x ∧ n.k.b < x ∧ n.k.c < x ∧ n.k.d < x
  lvl : ∀ (x : Nat) (n : Nd), 2 ≤ x → σ[x]? = some n → 1 ≤ n.level ∧ n.level ≤ 62 ∧ lev σ n.k.a = (n.level : Int) - 1 ∧ lev σ n.k.b = (n.level : Int) - 1 ∧ lev σ n.k.c = (n.level : Int) - 1 ∧ lev σ n.k.d = (n.level : Int) - 1
  once : ∀ (x y : Nat) (n m : Nd), 2 ≤ x → 2 ≤ y → σ[x]? = some n → σ[y]? = some m → n.k = m.k → x = y
  cap : ∀ (x : Nat) (n : Nd), σ[x]? = some n → n.alive ≤ 18446744073709551615

/-! ### the table -/

/-- Where the search for four begins. -/
def hs (n : Int) (x : Nat) : Int :=
  let m := IntKind.u64.wrap (bits .xor .u64 n x * 11400714819323198485)
  bits .xor .u64 m (m / 536870912)
def hash (k : K4) : Int := hs (hs (hs (hs 0 k.a) k.b) k.c) k.d
def pos (k : K4) (sz : Nat) : Nat := (hash k % sz).toNat

theorem xor_bd (a b : Int) : 0 ≤ bits .xor .u64 a b ∧ bits .xor .u64 a b ≤ 18446744073709551615 := by
  unfold bits
  simp only [IntKind.wrap_u64]
  omega
theorem hash_bd (k : K4) : 0 ≤ hash k ∧ hash k ≤ 18446744073709551615 := xor_bd _ _
/-- The place of four in the table: nothing else stands on the way there, and it is empty, or theirs. -/
def SlotAt (σ : List Nd) (tab : List Nat) (k : K4) (i : Nat) : Prop :=
  ∃ d, d < tab.length ∧ i = (pos k tab.length + d) % tab.length ∧
    (∀ e, e < d → tab.getD ((pos k tab.length + e) % tab.length) 0 ≠ 0 ∧ kidsOf σ (tab.getD ((pos k tab.length + e) % tab.length) 0) ≠ k) ∧
    (tab.getD i 0 = 0 ∨ kidsOf σ (tab.getD i 0) = k)

/-- What holds of the table. -/
structure TabOk (σ : List Nd) (tab : List Nat) (most : Nat) : Prop where
  big : 2 * most ≤ tab.length
  some : 1 ≤ tab.length
  fits : σ.length ≤ most
  entry : ∀ i, tab.getD i 0 ≠ 0 → 2 ≤ tab.getD i 0 ∧ tab.getD i 0 < σ.length
  there : ∀ x, 2 ≤ x → x < σ.length → ∃ d, d < tab.length ∧ tab.getD ((pos (kidsOf σ x) tab.length + d) % tab.length) 0 = x ∧
    ∀ e, e < d → tab.getD ((pos (kidsOf σ x) tab.length + e) % tab.length) 0 ≠ 0
  count : (tab.filter (· ≠ 0)).length ≤ σ.length - 2

theorem slot_empty {σ : List Nd} {tab : List Nat} {most i : Nat} {k : K4} (T : TabOk σ tab most) (h : SlotAt σ tab k i) (h0 : tab.getD i 0 = 0) :
    ∀ x, 2 ≤ x → x < σ.length → kidsOf σ x ≠ k := by
  intro x hx hlt hk
  obtain ⟨d, hd, hi, hbefore, _⟩ := h
  obtain ⟨dx, hdx, hxat, hxb⟩ := T.there x hx hlt
  rw [hk] at hxat hxb
  rcases Nat.lt_trichotomy dx d with hlt' | rfl | hgt
  · have := (hbefore dx hlt').2
    rw [hxat] at this
    exact this hk
  · rw [← hi, h0] at hxat
    omega
  · have := hxb d hgt
    rw [← hi] at this
    exact this h0

theorem slot_full {σ : List Nd} {tab : List Nat} {most i : Nat} {k : K4} (T : TabOk σ tab most) (h : SlotAt σ tab k i) (h0 : tab.getD i 0 ≠ 0) :
    2 ≤ tab.getD i 0 ∧ tab.getD i 0 < σ.length ∧ kidsOf σ (tab.getD i 0) = k := by
  obtain ⟨d, hd, hi, hbefore, hor⟩ := h
  refine ⟨(T.entry i h0).1, (T.entry i h0).2, ?_⟩
  rcases hor with h | h
  · exact absurd h h0
  · exact h

theorem findK_some {σ : List Nd} {k : K4} {x : Nat} (hx : 2 ≤ x) (hlt : x < σ.length) (hk : kidsOf σ x = k) (W : Wf σ) : findK σ k = some x := by
  unfold findK
  have huniq : ∀ y, y < σ.length → 2 ≤ y → kidsOf σ y = k → y = x := by
    intro y hy h2 hyk
    have e1 : σ[y]? = some σ[y] := List.getElem?_eq_getElem hy
    have e2 : σ[x]? = some σ[x] := List.getElem?_eq_getElem hlt
    refine W.once y x _ _ h2 hx e1 e2 ?_
    simp only [kidsOf, e1] at hyk
    simp only [kidsOf, e2] at hk
    rw [hyk, hk]
  cases hf : (List.range σ.length).find? fun x => decide (2 ≤ x) && decide (kidsOf σ x = k) with
  | none =>
    have := List.find?_eq_none.1 hf x (List.mem_range.2 hlt)
    simp [hx, hk] at this
  | some y =>
    have h1 := List.find?_some hf
    have h2 := List.mem_of_find?_eq_some hf
    simp only [Bool.and_eq_true, decide_eq_true_eq] at h1
    rw [huniq y (List.mem_range.1 h2) h1.1 h1.2]

theorem findK_none {σ : List Nd} {k : K4} (h : ∀ x, 2 ≤ x → x < σ.length → kidsOf σ x ≠ k) : findK σ k = none := by
  unfold findK
  refine List.find?_eq_none.2 fun x hx => ?_
  have := h x
  simp only [Bool.and_eq_true, decide_eq_true_eq, not_and]
  intro h2
  exact this h2 (List.mem_range.1 hx)

/-- A table that is never full has an empty place on every way. -/
theorem free_place {σ : List Nd} {tab : List Nat} {most : Nat} (T : TabOk σ tab most) (p : Nat) : ∃ d, d < tab.length ∧ tab.getD ((p + d) % tab.length) 0 = 0 := by
  have hcount := T.count
  have hb := T.big
  have hs := T.some
  have hf := T.fits
  -- some entry is 0
  have hex : ∃ i, i < tab.length ∧ tab.getD i 0 = 0 := by
    refine Classical.byContradiction fun hno => ?_
    have hall : ∀ x ∈ tab, decide (x ≠ 0) = true := by
      intro x hx
      obtain ⟨i, hi, rfl⟩ := List.getElem_of_mem hx
      have := fun h => hno ⟨i, hi, h⟩
      simp only [List.getD_eq_getElem?_getD, List.getElem?_eq_getElem hi, Option.getD_some] at this
      simpa using this
    rw [List.filter_eq_self.2 hall] at hcount
    omega
  obtain ⟨i, hi, h0⟩ := hex
  refine ⟨(i + tab.length - p % tab.length) % tab.length, Nat.mod_lt _ (by omega), ?_⟩
  have : (p + (i + tab.length - p % tab.length) % tab.length) % tab.length = i := by
    have h1 : p % tab.length < tab.length := Nat.mod_lt _ (by omega)
    rw [Nat.add_mod, Nat.mod_mod]
    rcases Nat.lt_or_ge i (p % tab.length) with h | h
    · rw [show i + tab.length - p % tab.length = i + tab.length - p % tab.length from rfl, Nat.mod_eq_of_lt (a := i + tab.length - p % tab.length) (by omega)]
      rw [show p % tab.length + (i + tab.length - p % tab.length) = i + tab.length by omega, Nat.add_mod_right, Nat.mod_eq_of_lt hi]
    · rw [show i + tab.length - p % tab.length = (i - p % tab.length) + tab.length by omega, Nat.add_mod_right, Nat.mod_eq_of_lt (a := i - p % tab.length) (by omega)]
      rw [show p % tab.length + (i - p % tab.length) = i by omega, Nat.mod_eq_of_lt hi]
  rw [this]
  exact h0

theorem lev_append {σ : List Nd} {l : List Nd} {x : Nat} (h : x < σ.length) : lev (σ ++ l) x = lev σ x := by
  simp only [lev, List.getElem?_append_left h]
theorem cnt_append {σ : List Nd} {l : List Nd} {x : Nat} (h : x < σ.length) : cnt (σ ++ l) x = cnt σ x := by
  simp only [cnt, List.getElem?_append_left h]
theorem kidsOf_append {σ : List Nd} {l : List Nd} {x : Nat} (h : x < σ.length) : kidsOf (σ ++ l) x = kidsOf σ x := by
  simp only [kidsOf, List.getElem?_append_left h]
theorem lt_of_lev {σ : List Nd} {x : Nat} (h : 0 ≤ lev σ x) : x < σ.length := by
  unfold lev at h
  split at h
  · rename_i n hn; exact (List.getElem?_eq_some_iff.1 hn).1
  · omega
theorem lev_nonneg {σ : List Nd} {x : Nat} (h : x < σ.length) : 0 ≤ lev σ x := by
  unfold lev
  rw [List.getElem?_eq_getElem h]
  simp
theorem lev_le {σ : List Nd} (W : Wf σ) (x : Nat) : lev σ x ≤ 62 := by
  unfold lev
  split
  · rename_i n hn
    by_cases h : 2 ≤ x
    · have := (W.lvl x n h hn).2.1; omega
    · have hx : x = 0 ∨ x = 1 := by omega
      rcases hx with rfl | rfl
      · rw [W.n0] at hn; cases hn; decide
      · rw [W.n1] at hn; cases hn; decide
  · omega

theorem okK_spec {σ : List Nd} {k : K4} (h : okK σ k = true) : 0 ≤ lev σ k.a ∧ lev σ k.a < 62 ∧ lev σ k.b = lev σ k.a ∧ lev σ k.c = lev σ k.a ∧ lev σ k.d = lev σ k.a := by
  simp only [okK, Bool.and_eq_true, decide_eq_true_eq] at h
  exact ⟨h.1.1.1.1, h.1.1.1.2, h.1.1.2, h.1.2, h.2⟩

theorem sum4_le {σ : List Nd} (k : K4) (hm : ∀ x, cnt σ x ≤ 18446744073709551615) : sum4 σ k ≤ 18446744073709551615 := by
  unfold sum4
  have := hm k.a
  simp only
  repeat' split
  all_goals omega

theorem cnt_le {σ : List Nd} (W : Wf σ) (x : Nat) : cnt σ x ≤ 18446744073709551615 := by
  unfold cnt
  split
  · rename_i n hn; exact W.cap x n hn
  · omega

/-- A square more. -/
theorem Wf.push {σ : List Nd} {k : K4} (W : Wf σ) (hok : okK σ k = true) (hnew : ∀ x, 2 ≤ x → x < σ.length → kidsOf σ x ≠ k) : Wf (σ ++ [mkNd σ k]) := by
  obtain ⟨h0, h1, h2, h3, h4⟩ := okK_spec hok
  have la := lt_of_lev h0
  have lb := lt_of_lev (by omega : 0 ≤ lev σ k.b)
  have lc := lt_of_lev (by omega : 0 ≤ lev σ k.c)
  have ld := lt_of_lev (by omega : 0 ≤ lev σ k.d)
  have two := W.two
  have get : ∀ x n, (σ ++ [mkNd σ k])[x]? = some n → (x < σ.length ∧ σ[x]? = some n) ∨ (x = σ.length ∧ n = mkNd σ k) := by
    intro x n h
    rcases Nat.lt_trichotomy x σ.length with hlt | rfl | hgt
    · rw [List.getElem?_append_left hlt] at h; exact .inl ⟨hlt, h⟩
    · rw [List.getElem?_append_right (Nat.le_refl _)] at h; simp at h; exact .inr ⟨rfl, h.symm⟩
    · rw [List.getElem?_eq_none (by simp; omega)] at h; cases h
  refine ⟨by simp; omega, ?_, ?_, ?_, ?_, ?_, ?_⟩
  · rw [List.getElem?_append_left (by omega)]; exact W.n0
  · rw [List.getElem?_append_left (by omega)]; exact W.n1
  · intro x n hx h
    rcases get x n h with ⟨hlt, h⟩ | ⟨rfl, rfl⟩
    · exact W.kids x n hx h
    · exact ⟨la, lb, lc, ld⟩
  · intro x n hx h
    rcases get x n h with ⟨hlt, h⟩ | ⟨rfl, rfl⟩
    · obtain ⟨a1, a2, a3, a4, a5, a6⟩ := W.lvl x n hx h
      obtain ⟨b1, b2, b3, b4⟩ := W.kids x n hx h
      rw [lev_append (by omega), lev_append (by omega), lev_append (by omega), lev_append (by omega)]
      exact ⟨a1, a2, a3, a4, a5, a6⟩
    · simp only [mkNd]
      rw [lev_append la, lev_append lb, lev_append lc, lev_append ld]
      omega
  · intro x y n m hx hy hn hm hk
    rcases get x n hn with ⟨h1, h2⟩ | ⟨rfl, rfl⟩ <;> rcases get y m hm with ⟨h3, h4⟩ | ⟨rfl, rfl⟩
    · exact W.once x y n m hx hy h2 h4 hk
    · exact absurd (by simp only [kidsOf, h2]; exact hk) (hnew x hx h1)
    · exact absurd (by simp only [kidsOf, h4]; exact hk.symm) (hnew y hy h3)
    · rfl
  · intro x n h
    rcases get x n h with ⟨hlt, h⟩ | ⟨rfl, rfl⟩
    · exact W.cap x n h
    · exact sum4_le k (cnt_le W)

theorem getD_set (l : List Nat) (i j v : Nat) (hi : i < l.length) : (l.set i v).getD j 0 = if j = i then v else l.getD j 0 := by
  simp only [List.getD_eq_getElem?_getD, List.getElem?_set]
  by_cases h : i = j
  · subst h; simp [hi]
  · simp [h, Ne.symm h]

theorem filter_set {l : List Nat} : ∀ {i v : Nat}, i < l.length → l.getD i 0 = 0 → v ≠ 0 → ((l.set i v).filter (· ≠ 0)).length = (l.filter (· ≠ 0)).length + 1 := by
  induction l with
  | nil => intro i v h; simp at h
  | cons x l ih =>
    intro i v hi h0 hv
    cases i with
    | zero =>
      simp only [List.getD_cons_zero] at h0
      subst h0
      simp [hv]
    | succ i =>
      have := ih (i := i) (v := v) (by simpa using hi) (by simpa using h0) hv
      simp only [List.set_cons_succ, List.filter_cons]
      split <;> simp_all

/-- The table behind a square more. -/
theorem TabOk.push {σ : List Nd} {tab : List Nat} {most i : Nat} {k : K4} (T : TabOk σ tab most) (h : SlotAt σ tab k i) (h0 : tab.getD i 0 = 0) (hroom : σ.length < most) (two : 2 ≤ σ.length) :
    TabOk (σ ++ [mkNd σ k]) (tab.set i σ.length) most := by
  obtain ⟨d, hd, hi, hbefore, _⟩ := h
  have hlen : 0 < tab.length := by have := T.some; omega
  have hil : i < tab.length := by rw [hi]; exact Nat.mod_lt _ hlen
  have keep : ∀ j, tab.getD j 0 ≠ 0 → (tab.set i σ.length).getD j 0 = tab.getD j 0 := by
    intro j hj
    rw [getD_set _ _ _ _ hil, if_neg]
    intro e; subst e; exact hj h0
  have keep' : ∀ j, tab.getD j 0 ≠ 0 → (tab.set i σ.length).getD j 0 ≠ 0 := fun j hj => by rw [keep j hj]; exact hj
  refine ⟨by rw [List.length_set]; exact T.big, by rw [List.length_set]; exact T.some, by simp; omega, ?_, ?_, ?_⟩
  · intro j hj
    rw [getD_set _ _ _ _ hil] at hj ⊢
    split
    · simp; omega
    · rename_i hne
      rw [if_neg hne] at hj
      have := T.entry j hj
      rw [List.length_append, List.length_singleton]
      omega
  · intro x hx hlt
    rw [List.length_set]
    by_cases hxn : x < σ.length
    · obtain ⟨dx, h1, h2, h3⟩ := T.there x hx hxn
      rw [kidsOf_append hxn]
      refine ⟨dx, h1, ?_, fun e he => keep' _ (h3 e he)⟩
      rw [keep _ (by rw [h2]; omega)]
      exact h2
    · have hxe : x = σ.length := by simp at hlt; omega
      subst hxe
      have hk : kidsOf (σ ++ [mkNd σ k]) σ.length = k := by
        simp [kidsOf, mkNd]
      rw [hk]
      refine ⟨d, hd, ?_, fun e he => keep' _ (hbefore e he).1⟩
      rw [← hi, getD_set _ _ _ _ hil, if_pos rfl]
  · have := T.count
    rw [filter_set hil h0 (by omega), List.length_append, List.length_singleton]
    omega

theorem pos_lt (k : K4) {sz : Nat} (h : 0 < sz) : pos k sz < sz := by
  unfold pos
  have := Int.emod_lt_of_pos (hash k) (show (0 : Int) < sz by omega)
  have := Int.emod_nonneg (hash k) (show (sz : Int) ≠ 0 by omega)
  omega
/-- the start as the program reckons it -/
theorem start_eq (k : K4) {sz : Nat} (h : 0 < sz) (hm : sz ≤ 4194304) : RowKit.wrap64 ((hash k).tmod sz) = (pos k sz : Int) := by
  have hb := hash_bd k
  rw [Int.tmod_eq_emod_of_nonneg hb.1]
  have h1 := Int.emod_lt_of_pos (hash k) (show (0 : Int) < sz by omega)
  have h2 := Int.emod_nonneg (hash k) (show (sz : Int) ≠ 0 by omega)
  unfold RowKit.wrap64 pos
  omega
theorem next_eq {p d sz : Nat} (h : 0 < sz) : ((((p + d) % sz : Nat) : Int) + 1).tmod sz = (((p + (d + 1)) % sz : Nat) : Int) := by
  have h1 : (p + d) % sz < sz := Nat.mod_lt _ h
  rw [Int.tmod_eq_emod_of_nonneg (by omega)]
  rw [show p + (d + 1) = (p + d) + 1 by omega, Nat.add_mod (p + d) 1]
  have : ((((p + d) % sz : Nat) : Int) + 1) = (((p + d) % sz + 1 : Nat) : Int) := by omega
  rw [this]
  norm_cast
  rw [Nat.add_mod ((p + d) % sz) 1, Nat.mod_mod]
end Go.Bv
