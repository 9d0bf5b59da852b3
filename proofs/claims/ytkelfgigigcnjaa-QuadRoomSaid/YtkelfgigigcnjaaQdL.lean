/-
  Laws of planes, in plain Lean.
-/
import Derived.Test.YtkelfgigigcnjaaQdP
namespace Go.Proofs.Ytkelfgigigcnjaa
open Go.RowKit Go.Bv

/-- More squares. -/
def Ext (σ τ : List Nd) : Prop := ∃ l, τ = σ ++ l
theorem Ext.refl (σ : List Nd) : Ext σ σ := ⟨[], by simp⟩
theorem Ext.trans {a b c : List Nd} (h : Ext a b) (k : Ext b c) : Ext a c := by
  obtain ⟨l, rfl⟩ := h; obtain ⟨m, rfl⟩ := k; exact ⟨l ++ m, by simp⟩
theorem Ext.len {a b : List Nd} (h : Ext a b) : a.length ≤ b.length := by obtain ⟨l, rfl⟩ := h; simp
theorem Ext.lv {a b : List Nd} (h : Ext a b) {x : Nat} (hx : x < a.length) : lev b x = lev a x := by obtain ⟨l, rfl⟩ := h; exact lev_append hx
theorem Ext.ct {a b : List Nd} (h : Ext a b) {x : Nat} (hx : x < a.length) : cnt b x = cnt a x := by obtain ⟨l, rfl⟩ := h; exact cnt_append hx
theorem Ext.kd {a b : List Nd} (h : Ext a b) {x : Nat} (hx : x < a.length) : kidsOf b x = kidsOf a x := by obtain ⟨l, rfl⟩ := h; exact kidsOf_append hx
theorem mk_ext (σ : List Nd) (most : Nat) (k : K4) : Ext σ (mk σ most k).1 := by
  rcases mk_cases σ most k with ⟨_, e⟩ | ⟨_, x, _, _, _, _, e⟩ | ⟨_, _, _, e⟩ | ⟨_, _, _, e⟩ <;> rw [e]
  · exact Ext.refl _
  · exact Ext.refl _
  · exact ⟨_, rfl⟩
  · exact Ext.refl _
theorem mk_errOk {σ : List Nd} {most : Nat} {k : K4} (hk : okK σ k = true) : (mk σ most k).2.2 = 0 ∨ (mk σ most k).2.2 = 7 := by
  rcases mk_cases σ most k with ⟨h, e⟩ | ⟨_, x, _, _, _, _, e⟩ | ⟨_, _, _, e⟩ | ⟨_, _, _, e⟩
  · rw [hk] at h; cases h
  · rw [e]; exact .inl rfl
  · rw [e]; exact .inl rfl
  · rw [e]; exact .inr rfl

theorem kth_withK {k : K4} {i j y : Nat} (hi : i < 4) (hj : j < 4) : kth (withK k i y) j = if j = i then y else kth k j := by
  obtain rfl | rfl | rfl | rfl : i = 0 ∨ i = 1 ∨ i = 2 ∨ i = 3 := by omega
  all_goals
    obtain rfl | rfl | rfl | rfl : j = 0 ∨ j = 1 ∨ j = 2 ∨ j = 3 := by omega
    all_goals rfl
theorem K4.ext4 {k m : K4} (h : ∀ j, j < 4 → kth k j = kth m j) : k = m := by
  have h0 := h 0 (by omega)
  have h1 := h 1 (by omega)
  have h2 := h 2 (by omega)
  have h3 := h 3 (by omega)
  cases k; cases m
  simp only [kth] at h0 h1 h2 h3
  subst h0 h1 h2 h3; rfl
theorem okK_of {σ : List Nd} {k : K4} {n : Nat} (h : ∀ j, j < 4 → lev σ (kth k j) = n) (hn : n < 62) : okK σ k = true := by
  have h0 := h 0 (by omega)
  have h1 := h 1 (by omega)
  have h2 := h 2 (by omega)
  have h3 := h 3 (by omega)
  simp only [kth] at h0 h1 h2 h3
  simp only [okK, Bool.and_eq_true, decide_eq_true_eq]
  omega

/-! ### how many cells are alive -/

/-- Each square's number of living cells is its four's sum. -/
def Sm (σ : List Nd) : Prop := ∀ (x : Nat) (n : Nd), 2 ≤ x → σ[x]? = some n → n.alive = sum4 σ n.k
theorem sum4_append {σ : List Nd} {l : List Nd} {k : K4} (ha : k.a < σ.length) (hb : k.b < σ.length) (hc : k.c < σ.length) (hd : k.d < σ.length) : sum4 (σ ++ l) k = sum4 σ k := by
  unfold sum4
  rw [cnt_append ha, cnt_append hb, cnt_append hc, cnt_append hd]
theorem Sm.push {σ : List Nd} {k : K4} (W : Wf σ) (S : Sm σ) (hk : okK σ k = true) : Sm (σ ++ [mkNd σ k]) := by
  obtain ⟨h0, h1, h2, h3, h4⟩ := okK_spec hk
  have la := lt_of_lev h0
  have lb := lt_of_lev (by omega : 0 ≤ lev σ k.b)
  have lc := lt_of_lev (by omega : 0 ≤ lev σ k.c)
  have ld := lt_of_lev (by omega : 0 ≤ lev σ k.d)
  intro x n hx h
  by_cases hlt : x < σ.length
  · rw [List.getElem?_append_left hlt] at h
    obtain ⟨b1, b2, b3, b4⟩ := W.kids x n hx h
    rw [sum4_append (by omega) (by omega) (by omega) (by omega)]
    exact S x n hx h
  · have hxe : x = σ.length := by
      have := (List.getElem?_eq_some_iff.1 h).1
      simp at this; omega
    subst hxe
    simp at h
    subst h
    rw [show (mkNd σ k).k = k from rfl, sum4_append la lb lc ld]; rfl
theorem Sm_mk {σ : List Nd} (W : Wf σ) (S : Sm σ) (most : Nat) (k : K4) : Sm (mk σ most k).1 := by
  rcases mk_cases σ most k with ⟨_, e⟩ | ⟨_, x, _, _, _, _, e⟩ | ⟨hk, hf, _, e⟩ | ⟨_, _, _, e⟩ <;> rw [e]
  · exact S
  · exact S
  · exact S.push W hk
  · exact S
theorem sm0 : Sm [nd0, nd1] := by
  intro x n hx h
  have : x < 2 := (List.getElem?_eq_some_iff.1 h).1
  omega

/-- What Make hands back when nothing is wrong. -/
structure IsMk (σ τ : List Nd) (k : K4) (y : Nat) : Prop where
  ext : Ext σ τ
  wf : Wf τ
  sm : Sm τ
  lt : y < τ.length
  two : 2 ≤ y
  kids : kidsOf τ y = k
  lv : lev τ y = lev σ k.a + 1
theorem mk_is {σ : List Nd} {most : Nat} {k : K4} (W : Wf σ) (S : Sm σ) (hk : okK σ k = true) (hz : (mk σ most k).2.2 = 0) : IsMk σ (mk σ most k).1 k (mk σ most k).2.1 := by
  have hw := Wf_mk W most k
  have hs := Sm_mk W S most k
  have he := mk_ext σ most k
  have h2 := W.two
  rcases mk_cases σ most k with ⟨h, e⟩ | ⟨_, x, hx, hl, hkx, _, e⟩ | ⟨_, _, _, e⟩ | ⟨_, _, _, e⟩
  · rw [hk] at h; cases h
  · rw [e] at hw hs he ⊢
    have hg : σ[x]? = some σ[x] := List.getElem?_eq_getElem hl
    have := (W.lvl x _ hx hg).2.2.1
    rw [get_kids hg] at hkx
    rw [hkx] at this
    refine ⟨he, hw, hs, hl, hx, by rw [get_kids hg]; exact hkx, ?_⟩
    show lev σ x = _
    rw [get_lev hg]; omega
  · rw [e] at hw hs he ⊢
    have hg : (σ ++ [mkNd σ k])[σ.length]? = some (mkNd σ k) := by simp
    refine ⟨he, hw, hs, by simp, h2, get_kids hg, ?_⟩
    show lev _ σ.length = _
    rw [get_lev hg]
    have := (okK_spec hk).1
    simp only [mkNd]; omega
  · rw [e] at hz; cases hz

/-- How many cells of a square of a level are alive. -/
def tot (σ : List Nd) : Nat → Nat → Nat
  | 0, x => if x = 1 then 1 else 0
  | n + 1, x => tot σ n (kth (kidsOf σ x) 0) + tot σ n (kth (kidsOf σ x) 1) + tot σ n (kth (kidsOf σ x) 2) + tot σ n (kth (kidsOf σ x) 3)

theorem lev0 {σ : List Nd} (W : Wf σ) {x : Nat} (h : lev σ x = (0 : Nat)) : x = 0 ∨ x = 1 := by
  have hx := lt_of_lev (show 0 ≤ lev σ x by omega)
  have hg : σ[x]? = some σ[x] := List.getElem?_eq_getElem hx
  by_cases h2 : 2 ≤ x
  · have := (W.lvl x _ h2 hg).1
    rw [get_lev hg] at h; omega
  · omega
theorem cnt_tot {σ : List Nd} (W : Wf σ) (S : Sm σ) : ∀ (n x : Nat), lev σ x = n → cnt σ x = min (tot σ n x) 18446744073709551615
  | 0, x, h => by
    rcases lev0 W h with rfl | rfl
    · simp [cnt, W.n0, nd0, tot]
    · simp [cnt, W.n1, nd1, tot]
  | n + 1, x, h => by
    have hx := lt_of_lev (show 0 ≤ lev σ x by omega)
    have hg : σ[x]? = some σ[x] := List.getElem?_eq_getElem hx
    have h2 := two_le W (show 1 ≤ lev σ x by omega)
    have e : cnt σ x = sum4 σ (kidsOf σ x) := by
      rw [get_kids hg, ← S x _ h2 hg]; simp [cnt, hg]
    rw [e]
    have i0 := cnt_tot W S n _ (kid_ok W h 0).2
    have i1 := cnt_tot W S n _ (kid_ok W h 1).2
    have i2 := cnt_tot W S n _ (kid_ok W h 2).2
    have i3 := cnt_tot W S n _ (kid_ok W h 3).2
    simp only [tot]
    simp only [kth] at i0 i1 i2 i3 ⊢
    unfold sum4
    rw [i0, i1, i2, i3]
    generalize tot σ n (kidsOf σ x).a = a
    generalize tot σ n (kidsOf σ x).b = b
    generalize tot σ n (kidsOf σ x).c = c
    generalize tot σ n (kidsOf σ x).d = d
    simp only
    repeat' split
    all_goals omega

theorem Ext.tt {σ τ : List Nd} (h : Ext σ τ) (W : Wf σ) : ∀ (n x : Nat), lev σ x = n → tot τ n x = tot σ n x
  | 0, x, _ => rfl
  | n + 1, x, hl => by
    have hx := lt_of_lev (show 0 ≤ lev σ x by omega)
    simp only [tot]
    rw [h.kd hx, h.tt W n _ (kid_ok W hl 0).2, h.tt W n _ (kid_ok W hl 1).2, h.tt W n _ (kid_ok W hl 2).2, h.tt W n _ (kid_ok W hl 3).2]
theorem Ext.cl {σ τ : List Nd} (h : Ext σ τ) (W : Wf σ) : ∀ (n x : Nat) (px py : Int), lev σ x = n → cell τ n x px py = cell σ n x px py
  | 0, x, _, _, _ => rfl
  | n + 1, x, px, py, hl => by
    have hx := lt_of_lev (show 0 ≤ lev σ x by omega)
    simp only [cell]
    rw [h.kd hx, h.cl W n _ _ _ (kid_ok W hl _).2]
theorem Ext.gt {σ τ : List Nd} (h : Ext σ τ) (W : Wf σ) {r : Nat} (hr : r < σ.length) (px py : Int) : get τ r px py = get σ r px py := by
  have h0 := lev_nonneg hr
  unfold get
  rw [h.lv hr, h.cl W _ r _ _ (by omega)]
theorem cell_tot (σ : List Nd) : ∀ (n x : Nat) (px py : Int), cell σ n x px py = true → 1 ≤ tot σ n x
  | 0, x, _, _, h => by
    simp only [cell, decide_eq_true_eq] at h; simp [tot, h]
  | n + 1, x, px, py, h => by
    have := cell_tot σ n _ _ _ h
    have h4 := qi_lt (2 ^ n) px py
    simp only [tot]
    generalize qi (2 ^ n) px py = i at this h4
    obtain rfl | rfl | rfl | rfl : i = 0 ∨ i = 1 ∨ i = 2 ∨ i = 3 := by omega
    all_goals omega
theorem dead_of_tot {σ : List Nd} {n x : Nat} (h : tot σ n x = 0) (px py : Int) : cell σ n x px py = false := by
  cases e : cell σ n x px py with
  | false => rfl
  | true => have := cell_tot σ n x px py e; omega

/-! ### a cell is set -/

theorem qi_qc {n : Nat} {px py qx qy : Int} (h : qi (2 ^ n) qx qy = qi (2 ^ n) px py) :
    (qc (2 ^ n) qx = qc (2 ^ n) px ∧ qc (2 ^ n) qy = qc (2 ^ n) py) ↔ (qx = px ∧ qy = py) := by
  unfold qi at h
  unfold qc
  repeat' split at h
  all_goals simp_all
  all_goals try omega

/-- More squares, and all is well. -/
structure Grew (σ τ : List Nd) : Prop where
  ext : Ext σ τ
  wf : Wf τ
  sm : Sm τ
theorem Grew.trans {a b c : List Nd} (h : Grew a b) (k : Grew b c) : Grew a c := ⟨h.ext.trans k.ext, k.wf, k.sm⟩
theorem Grew.refl {a : List Nd} (W : Wf a) (S : Sm a) : Grew a a := ⟨Ext.refl _, W, S⟩
theorem mk_grew {σ : List Nd} (most : Nat) (k : K4) (W : Wf σ) (S : Sm σ) : Grew σ (mk σ most k).1 := ⟨mk_ext _ _ _, Wf_mk W _ _, Sm_mk W S _ _⟩

/-- What set hands back when nothing is wrong. -/
structure SetOk (σ τ : List Nd) (n x y : Nat) (px py : Int) (alive : Bool) : Prop where
  lv : lev τ y = n
  cl : ∀ qx qy : Int, (0 ≤ qx ∧ qx < 2 ^ n) → (0 ≤ qy ∧ qy < 2 ^ n) → cell τ n y qx qy = if qx = px ∧ qy = py then alive else cell σ n x qx qy
  tt : tot τ n y + (if cell σ n x px py then 1 else 0) = tot σ n x + (if alive then 1 else 0)

theorem setC_ok (alive : Bool) {σ : List Nd} {most : Nat} (W : Wf σ) (S : Sm σ) : ∀ (n x : Nat) (px py : Int), lev σ x = n → (0 ≤ px ∧ px < 2 ^ n) → (0 ≤ py ∧ py < 2 ^ n) →
    Grew σ (setC σ most n x px py alive).1 ∧ (((setC σ most n x px py alive).2.2 = 0 ∧ SetOk σ (setC σ most n x px py alive).1 n x (setC σ most n x px py alive).2.1 px py alive) ∨ (setC σ most n x px py alive).2.2 = 7)
  | 0, x, px, py, hl, hx, hy => by
    have hp : px = 0 ∧ py = 0 := by simp at hx hy; omega
    refine ⟨Grew.refl W S, .inl ⟨rfl, ?_, ?_, ?_⟩⟩
    · cases alive
      · simp only [setC]; simp only [Bool.false_eq_true, if_false]; rw [get_lev W.n0]; rfl
      · simp only [setC, if_true]; rw [get_lev W.n1]; rfl
    · intro qx qy h1 h2
      have : qx = 0 ∧ qy = 0 := by simp at h1 h2; omega
      rw [if_pos (by omega)]
      cases alive <;> simp [setC, cell]
    · rcases lev0 W hl with rfl | rfl <;> cases alive <;> simp [setC, tot, cell]
  | n + 1, x, px, py, hl, hx, hy => by
    have hn := lev_le W x
    have hi4 := qi_lt (2 ^ n) px py
    have hk := fun j => kid_ok W hl j
    have ih := setC_ok alive W S (most := most) n (kth (kidsOf σ x) (qi (2 ^ n) px py)) (qc (2 ^ n) px) (qc (2 ^ n) py) (hk _).2 (qc_bd hx) (qc_bd hy)
    have hxl := lt_of_lev (show 0 ≤ lev σ x by omega)
    simp only [setC, bnd]
    generalize hq : setC σ most n (kth (kidsOf σ x) (qi (2 ^ n) px py)) (qc (2 ^ n) px) (qc (2 ^ n) py) alive = q at ih ⊢
    obtain ⟨G, ih⟩ := ih
    rcases ih with ⟨hz, I⟩ | hz
    · rw [if_pos hz]
      have hkj : ∀ j, j < 4 → lev q.1 (kth (withK (kidsOf σ x) (qi (2 ^ n) px py) q.2.1) j) = n := by
        intro j hj
        rw [kth_withK hi4 hj]
        split
        · exact I.lv
        · rw [G.ext.lv (by have := (hk j).1; omega)]; exact (hk j).2
      have hok := okK_of hkj (by omega)
      have G2 := mk_grew most (withK (kidsOf σ x) (qi (2 ^ n) px py) q.2.1) G.wf G.sm
      refine ⟨G.trans G2, ?_⟩
      rcases mk_errOk (most := most) hok with h0 | h7
      · refine .inl ⟨h0, ?_⟩
        have M := mk_is (most := most) G.wf G.sm hok h0
        generalize mk q.1 most (withK (kidsOf σ x) (qi (2 ^ n) px py) q.2.1) = r at M G2 ⊢
        have hy1 : lev q.1 q.2.1 = n := I.lv
        have hc1 : ∀ j, j < 4 → ∀ a b, cell r.1 n (kth (kidsOf r.1 r.2.1) j) a b = if j = qi (2 ^ n) px py then cell q.1 n q.2.1 a b else cell σ n (kth (kidsOf σ x) j) a b := by
          intro j hj a b
          rw [M.kids, kth_withK hi4 hj]
          split
          · exact M.ext.cl G.wf _ _ _ _ hy1
          · exact (G.ext.trans M.ext).cl W _ _ _ _ (hk j).2
        have ht1 : ∀ j, j < 4 → tot r.1 n (kth (kidsOf r.1 r.2.1) j) = if j = qi (2 ^ n) px py then tot q.1 n q.2.1 else tot σ n (kth (kidsOf σ x) j) := by
          intro j hj
          rw [M.kids, kth_withK hi4 hj]
          split
          · exact M.ext.tt G.wf _ _ hy1
          · exact (G.ext.trans M.ext).tt W _ _ (hk j).2
        refine ⟨?_, ?_, ?_⟩
        · have := hkj 0 (by omega)
          rw [M.lv]
          simp only [kth] at this
          rw [this]; rfl
        · intro qx qy h1 h2
          simp only [cell]
          rw [hc1 _ (qi_lt _ _ _)]
          by_cases he : qi (2 ^ n) qx qy = qi (2 ^ n) px py
          · rw [if_pos he, I.cl _ _ (qc_bd h1) (qc_bd h2), he]
            have := qi_qc he
            by_cases hqp : qx = px ∧ qy = py
            · rw [if_pos hqp, if_pos (this.2 hqp)]
            · rw [if_neg hqp, if_neg (fun h => hqp (this.1 h))]
          · rw [if_neg he, if_neg (fun h => he (by rw [h.1, h.2]))]
        · have t := I.tt
          have e : cell σ (n + 1) x px py = cell σ n (kth (kidsOf σ x) (qi (2 ^ n) px py)) (qc (2 ^ n) px) (qc (2 ^ n) py) := rfl
          rw [e]
          simp only [tot]
          rw [ht1 0 (by omega), ht1 1 (by omega), ht1 2 (by omega), ht1 3 (by omega)]
          generalize cell σ n (kth (kidsOf σ x) (qi (2 ^ n) px py)) (qc (2 ^ n) px) (qc (2 ^ n) py) = c at t ⊢
          generalize qi (2 ^ n) px py = i at hi4 t ⊢
          obtain rfl | rfl | rfl | rfl : i = 0 ∨ i = 1 ∨ i = 2 ∨ i = 3 := by omega
          all_goals simp only [if_true, if_false, Nat.reduceEqDiff] at t ⊢; omega
      · exact .inr h7
    · rw [if_neg (by omega)]
      exact ⟨G, .inr hz⟩

/-! ### the empty square -/
theorem emp_ok {σ : List Nd} {most : Nat} (W : Wf σ) (S : Sm σ) : ∀ n, n ≤ 62 → Grew σ (emp σ most n).1 ∧ (((emp σ most n).2.2 = 0 ∧ lev (emp σ most n).1 (emp σ most n).2.1 = n ∧ tot (emp σ most n).1 n (emp σ most n).2.1 = 0) ∨ (emp σ most n).2.2 = 7)
  | 0, _ => ⟨Grew.refl W S, .inl ⟨rfl, by simp only [emp]; rw [get_lev W.n0]; rfl, rfl⟩⟩
  | n + 1, hn => by
    obtain ⟨G, ih⟩ := emp_ok W S n (by omega)
    rw [emp]
    generalize emp σ most n = q at G ih ⊢
    rcases ih with ⟨hz, hl, ht⟩ | h7
    · rw [if_pos hz]
      have hkj : ∀ j, j < 4 → lev q.1 (kth ⟨q.2.1, q.2.1, q.2.1, q.2.1⟩ j) = n := by
        intro j _
        have : kth ⟨q.2.1, q.2.1, q.2.1, q.2.1⟩ j = q.2.1 := by unfold kth; split <;> rfl
        rw [this]; exact hl
      have hok := okK_of hkj (by omega)
      have G2 := mk_grew most ⟨q.2.1, q.2.1, q.2.1, q.2.1⟩ G.wf G.sm
      refine ⟨G.trans G2, ?_⟩
      rcases mk_errOk (most := most) hok with h0 | h7
      · have M := mk_is (most := most) G.wf G.sm hok h0
        refine .inl ⟨h0, ?_, ?_⟩
        · rw [M.lv]; simp only []; rw [hl]; rfl
        · simp only [tot, M.kids, kth]
          rw [M.ext.tt G.wf _ _ hl, ht]
      · exact .inr h7
    · rw [if_neg (by omega)]
      exact ⟨G, .inr h7⟩

/-! ### a square of one level more -/
/-- Behind j of the four. -/
structure ExsOk (σ : List Nd) (o : Nat) (k : K4) (m j : Nat) (e : List Nd × K4 × Nat) : Prop where
  grew : Grew σ e.1
  kids : ∀ i, i < j → kth e.2.1 i < e.1.length ∧ kidsOf e.1 (kth e.2.1 i) = withK ⟨o, o, o, o⟩ (3 - i) (kth k i) ∧ lev e.1 (kth e.2.1 i) = (m + 1 : Nat)
theorem exS_ok {σ : List Nd} {most o m : Nat} {k : K4} (W : Wf σ) (S : Sm σ) (hm : m < 62) (ho : lev σ o = m) (hk : ∀ j, j < 4 → lev σ (kth k j) = m) : ∀ j, j ≤ 4 →
    ((exS σ most o k j).2.2 = 0 ∧ ExsOk σ o k m j (exS σ most o k j)) ∨ ((exS σ most o k j).2.2 = 7 ∧ Grew σ (exS σ most o k j).1)
  | 0, _ => .inl ⟨rfl, Grew.refl W S, fun i hi => by omega⟩
  | j + 1, hj => by
    have ih := exS_ok W S (most := most) hm ho hk j (by omega)
    rw [exS]
    generalize exS σ most o k j = q at ih ⊢
    rcases ih with ⟨hz, G, K⟩ | ⟨h7, G⟩
    · rw [if_pos hz]
      have hkj : ∀ i, i < 4 → lev q.1 (kth (withK ⟨o, o, o, o⟩ (3 - j) (kth k j)) i) = m := by
        intro i hi
        rw [kth_withK (by omega) hi]
        split
        · have h1 := hk j (by omega)
          rw [G.ext.lv (lt_of_lev (by omega))]; exact h1
        · have : kth ⟨o, o, o, o⟩ i = o := by unfold kth; split <;> rfl
          rw [this, G.ext.lv (lt_of_lev (by omega))]; exact ho
      have hok := okK_of hkj (by omega)
      have G2 := mk_grew most (withK ⟨o, o, o, o⟩ (3 - j) (kth k j)) G.wf G.sm
      rcases mk_errOk (most := most) hok with h0 | h7
      · have M := mk_is (most := most) G.wf G.sm hok h0
        refine .inl ⟨h0, G.trans G2, ?_⟩
        intro i hi
        simp only
        rw [kth_withK (by omega) (by omega)]
        split
        · rename_i e
          subst e
          refine ⟨M.lt, M.kids, ?_⟩
          have : lev q.1 (withK ⟨o, o, o, o⟩ (3 - i) (kth k i)).a = m := hkj 0 (by omega)
          rw [M.lv, this]; rfl
        · obtain ⟨a1, a2, a3⟩ := K i (by omega)
          exact ⟨by have := M.ext.len; omega, by rw [M.ext.kd a1]; exact a2, by rw [M.ext.lv a1]; exact a3⟩
      · exact .inr ⟨h7, G.trans G2⟩
    · rw [if_neg (by omega)]
      exact .inr ⟨h7, G⟩

/-- What Expand hands back when nothing is wrong. -/
structure ExpOk (σ τ : List Nd) (r y : Nat) : Prop where
  lv : lev τ y = lev σ r + 1
  gt : ∀ px py, get τ y px py = get σ r px py
  tt : tot τ (lev τ y).toNat y = tot σ (lev σ r).toNat r

theorem ring_in {h X Y : Int} (hx : h ≤ X ∧ X < 3 * h) (hy : h ≤ Y ∧ Y < 3 * h) :
    qi h (qc (2 * h) X) (qc (2 * h) Y) = 3 - qi (2 * h) X Y ∧ qi h (X - h) (Y - h) = qi (2 * h) X Y ∧ qc h (qc (2 * h) X) = qc h (X - h) ∧ qc h (qc (2 * h) Y) = qc h (Y - h) := by
  have key : ∀ Z, h ≤ Z ∧ Z < 3 * h → (2 * h ≤ Z ∧ qc (2 * h) Z = Z - 2 * h ∧ ¬ h ≤ Z - 2 * h ∧ h ≤ Z - h ∧ qc h (Z - 2 * h) = Z - 2 * h ∧ qc h (Z - h) = Z - 2 * h) ∨ (¬ 2 * h ≤ Z ∧ qc (2 * h) Z = Z ∧ h ≤ Z ∧ ¬ h ≤ Z - h ∧ qc h Z = Z - h ∧ qc h (Z - h) = Z - h) := by
    intro Z hz
    by_cases h2 : 2 * h ≤ Z
    · left
      unfold qc
      rw [if_pos h2, if_neg (by omega), if_pos (by omega)]
      omega
    · right
      unfold qc
      rw [if_neg h2, if_pos (by omega), if_neg (by omega)]
      omega
  rcases key X hx with ⟨a1, a2, a3, a4, a5, a6⟩ | ⟨a1, a2, a3, a4, a5, a6⟩ <;> rcases key Y hy with ⟨b1, b2, b3, b4, b5, b6⟩ | ⟨b1, b2, b3, b4, b5, b6⟩ <;>
    rw [a2, b2] <;> refine ⟨?_, ?_, ?_, ?_⟩ <;> (try simp only [qi, a1, a3, a4, b1, b3, b4, if_true, if_false]) <;> omega
theorem ring_out {h X Y : Int} (hx : 0 ≤ X ∧ X < 4 * h) (hy : 0 ≤ Y ∧ Y < 4 * h) (hn : ¬ (h ≤ X ∧ X < 3 * h ∧ h ≤ Y ∧ Y < 3 * h)) :
    qi h (qc (2 * h) X) (qc (2 * h) Y) ≠ 3 - qi (2 * h) X Y := by
  have key : ∀ Z, 0 ≤ Z ∧ Z < 4 * h → (2 * h ≤ Z ∧ qc (2 * h) Z = Z - 2 * h ∧ (h ≤ Z - 2 * h ↔ 3 * h ≤ Z)) ∨ (¬ 2 * h ≤ Z ∧ qc (2 * h) Z = Z ∧ (h ≤ Z ↔ h ≤ Z)) := by
    intro Z hz
    by_cases h2 : 2 * h ≤ Z
    · left
      unfold qc
      rw [if_pos h2]
      omega
    · right
      unfold qc
      rw [if_neg h2]
      omega
  rcases key X hx with ⟨a1, a2, a3⟩ | ⟨a1, a2, a3⟩ <;> rcases key Y hy with ⟨b1, b2, b3⟩ | ⟨b1, b2, b3⟩ <;>
    rw [a2, b2] <;> simp only [qi, a1, b1, if_true, if_false] <;> split <;> split <;> omega

theorem pow1 (m : Nat) : (2 : Int) ^ (m + 1) = 2 * 2 ^ m := by rw [Int.pow_succ]; omega
theorem pow_pos' (m : Nat) : (0 : Int) < 2 ^ m := Int.pow_pos (by omega)
theorem hf_nat (m : Nat) : hf ((m + 1 : Nat) : Int) = 2 ^ m := by unfold hf; rw [show (((m + 1 : Nat) : Int) - 1).toNat = m by omega]
theorem inSq_iff (l px py : Int) : inSq l px py = true ↔ (-hf l ≤ px ∧ px < hf l) ∧ (-hf l ≤ py ∧ py < hf l) := by
  simp only [inSq, Bool.and_eq_true, decide_eq_true_eq]; omega

theorem ring_get {σ τ : List Nd} {m o r y : Nat} (G : Grew σ τ) (W : Wf σ) (hr : lev σ r = (m + 1 : Nat)) (hy : lev τ y = (m + 2 : Nat)) (ho : tot τ m o = 0)
    (hk : ∀ j, j < 4 → kidsOf τ (kth (kidsOf τ y) j) = withK ⟨o, o, o, o⟩ (3 - j) (kth (kidsOf σ r) j)) (px py : Int) : get τ y px py = get σ r px py := by
  have hh := pow_pos' m
  have hp := pow1 m
  unfold get
  rw [hr, hy, show ((m + 2 : Nat) : Int) = ((m + 1 + 1 : Nat) : Int) by omega, hf_nat, hf_nat]
  rw [Int.toNat_natCast, Int.toNat_natCast]
  have i1 := inSq_iff ((m + 1 + 1 : Nat) : Int) px py
  have i2 := inSq_iff ((m + 1 : Nat) : Int) px py
  rw [hf_nat] at i1 i2
  generalize inSq ((m + 1 + 1 : Nat) : Int) px py = a at i1 ⊢
  generalize inSq ((m + 1 : Nat) : Int) px py = b at i2 ⊢
  rw [hp] at i1 ⊢
  have key : cell τ (m + 1 + 1) y (px + 2 * 2 ^ m) (py + 2 * 2 ^ m) = cell τ m (kth (withK ⟨o, o, o, o⟩ (3 - qi (2 * 2 ^ m) (px + 2 * 2 ^ m) (py + 2 * 2 ^ m)) (kth (kidsOf σ r) (qi (2 * 2 ^ m) (px + 2 * 2 ^ m) (py + 2 * 2 ^ m))))
      (qi (2 ^ m) (qc (2 * 2 ^ m) (px + 2 * 2 ^ m)) (qc (2 * 2 ^ m) (py + 2 * 2 ^ m)))) (qc (2 ^ m) (qc (2 * 2 ^ m) (px + 2 * 2 ^ m))) (qc (2 ^ m) (qc (2 * 2 ^ m) (py + 2 * 2 ^ m))) := by
    simp only [cell, hp]
    rw [hk _ (qi_lt _ _ _)]
  rw [key]
  have q4 := qi_lt (2 * 2 ^ m) (px + 2 * 2 ^ m) (py + 2 * 2 ^ m)
  rw [kth_withK (by omega) (qi_lt _ _ _)]
  have hoo : ∀ i, kth ⟨o, o, o, o⟩ i = o := by intro i; unfold kth; split <;> rfl
  rw [hoo]
  generalize hX : px + 2 * 2 ^ m = X at *
  generalize hY : py + 2 * 2 ^ m = Y at *
  have eX : px + 2 ^ m = X - 2 ^ m := by omega
  have eY : py + 2 ^ m = Y - 2 ^ m := by omega
  rw [eX, eY]
  clear key
  cases a
  · have hb : b = false := by
      cases b
      · rfl
      · have := i2.1 rfl
        have := i1.2 (by omega)
        cases this
    simp [hb]
  · have h1 := i1.1 rfl
    cases b
    · have h2 : ¬ (2 ^ m ≤ X ∧ X < 3 * 2 ^ m ∧ 2 ^ m ≤ Y ∧ Y < 3 * 2 ^ m) := fun h => by
        have := i2.2 (by omega)
        cases this
      rw [if_neg (ring_out (by omega) (by omega) h2)]
      simp [dead_of_tot ho]
    · have h2 := i2.1 rfl
      obtain ⟨r1, r2, r3, r4⟩ := ring_in (h := 2 ^ m) (X := X) (Y := Y) (by omega) (by omega)
      rw [if_pos r1]
      simp only [cell, r2, r3, r4]
      rw [G.ext.cl W _ _ _ _ (kid_ok W hr _).2]

theorem exp_ok {σ : List Nd} {most r m : Nat} (W : Wf σ) (S : Sm σ) (hl : lev σ r = (m + 1 : Nat)) (hm : m + 1 < 62) :
    Grew σ (expand σ most r).1 ∧ (((expand σ most r).2.2 = 0 ∧ ExpOk σ (expand σ most r).1 r (expand σ most r).2.1) ∨ (expand σ most r).2.2 = 7) := by
  have hkk := fun j => kid_ok W hl j
  have hr := lt_of_lev (show 0 ≤ lev σ r by omega)
  unfold expand
  rw [if_neg (by omega)]
  rw [show (lev σ r - 1).toNat = m by omega]
  have E := emp_ok (most := most) W S m (by omega)
  generalize emp σ most m = q at E ⊢
  obtain ⟨G, E⟩ := E
  unfold bnd
  rcases E with ⟨hz, ho, ht⟩ | h7
  · rw [if_pos hz]
    dsimp only
    have hk4 : ∀ j, j < 4 → lev q.1 (kth (kidsOf σ r) j) = m := fun j _ => by rw [G.ext.lv (by have := (hkk j).1; omega)]; exact (hkk j).2
    have X := exS_ok G.wf G.sm (most := most) (show m < 62 by omega) ho hk4 4 (by omega)
    generalize exS q.1 most q.2.1 (kidsOf σ r) 4 = e at X ⊢
    rcases X with ⟨hz2, G2, K⟩ | ⟨h7, G2⟩
    · rw [if_pos hz2]
      have hkj : ∀ j, j < 4 → lev e.1 (kth e.2.1 j) = (m + 1 : Nat) := fun j hj => (K j hj).2.2
      have hok := okK_of hkj (by omega)
      have G3 := mk_grew most e.2.1 G2.wf G2.sm
      refine ⟨(G.trans G2).trans G3, ?_⟩
      rcases mk_errOk (most := most) hok with h0 | h7
      · have M := mk_is (most := most) G2.wf G2.sm hok h0
        generalize mk e.1 most e.2.1 = v at M G3 h0 ⊢
        have hy : lev v.1 v.2.1 = (m + 2 : Nat) := by
          rw [M.lv]
          have := hkj 0 (by omega)
          simp only [kth] at this
          rw [this]; omega
        have hks : ∀ j, j < 4 → kidsOf v.1 (kth (kidsOf v.1 v.2.1) j) = withK ⟨q.2.1, q.2.1, q.2.1, q.2.1⟩ (3 - j) (kth (kidsOf σ r) j) := by
          intro j hj
          rw [M.kids, M.ext.kd (K j hj).1]
          exact (K j hj).2.1
        have hto : tot v.1 m q.2.1 = 0 := by rw [(G2.ext.trans M.ext).tt G.wf _ _ ho]; exact ht
        refine .inl ⟨h0, ?_, ?_, ?_⟩
        · rw [hy, hl]; omega
        · exact ring_get ((G.trans G2).trans G3) W hl hy hto hks
        · rw [hy, hl, Int.toNat_natCast, Int.toNat_natCast]
          have hkt : ∀ j, tot v.1 m (kth (kidsOf σ r) j) = tot σ m (kth (kidsOf σ r) j) := fun j => ((G.trans G2).trans G3).ext.tt W _ _ (hkk j).2
          simp only [tot]
          rw [hks 0 (by omega), hks 1 (by omega), hks 2 (by omega), hks 3 (by omega), ← hkt 0, ← hkt 1, ← hkt 2, ← hkt 3]
          simp only [withK, kth, Nat.sub_zero, Nat.reduceSub] at hto ⊢
          omega
      · exact .inr h7
    · rw [if_neg (by omega)]
      exact ⟨G.trans G2, .inr h7⟩
  · rw [if_neg (by omega)]
    exact ⟨G, .inr h7⟩

/-! ### a square that has a point -/
/-- What Reach hands back when nothing is wrong. -/
structure ReachOk (σ τ : List Nd) (r y : Nat) (px py : Int) : Prop where
  low : lev σ r ≤ lev τ y
  has : inSq (lev τ y) px py = true
  least : ∀ l : Int, lev σ r ≤ l → l < lev τ y → inSq l px py = false
  gt : ∀ qx qy, get τ y qx qy = get σ r qx qy
  tt : tot τ (lev τ y).toNat y = tot σ (lev σ r).toNat r

theorem reach_ok {most : Nat} {px py : Int} (hx : -2305843009213693952 ≤ px ∧ px < 2305843009213693952) (hy : -2305843009213693952 ≤ py ∧ py < 2305843009213693952) :
    ∀ (n : Nat) {σ : List Nd} (r : Nat), Wf σ → Sm σ → 1 ≤ lev σ r → 62 ≤ lev σ r + n →
    Grew σ (reach most px py n σ r).1 ∧ (((reach most px py n σ r).2.2 = 0 ∧ ReachOk σ (reach most px py n σ r).1 r (reach most px py n σ r).2.1 px py) ∨ (reach most px py n σ r).2.2 = 7)
  | 0, σ, r, W, S, h1, hn => by
    have h62 := lev_le W r
    have e : lev σ r = 62 := by omega
    refine ⟨Grew.refl W S, .inl ⟨rfl, Int.le_refl _, ?_, fun l h2 h3 => ?_, fun _ _ => rfl, rfl⟩⟩
    · rw [inSq_iff]
      simp only [reach]
      rw [e]
      rw [show hf 62 = 2305843009213693952 by rfl]
      omega
    · simp only [reach] at h3; omega
  | n + 1, σ, r, W, S, h1, hn => by
    have h62 := lev_le W r
    rw [reach]
    by_cases hin : inSq (lev σ r) px py = true
    · rw [if_pos hin]
      exact ⟨Grew.refl W S, .inl ⟨rfl, Int.le_refl _, hin, fun l h2 h3 => by simp only at h3; omega, fun _ _ => rfl, rfl⟩⟩
    · rw [if_neg hin]
      have hl : lev σ r = ((lev σ r - 1).toNat + 1 : Nat) := by omega
      have hlt : lev σ r < 62 := by
        apply Classical.byContradiction
        intro hge
        have e : lev σ r = 62 := by omega
        apply hin
        rw [inSq_iff, e, show hf 62 = 2305843009213693952 by rfl]
        omega
      have E := exp_ok (most := most) W S hl (by omega)
      generalize expand σ most r = q at E ⊢
      obtain ⟨G, E⟩ := E
      unfold bnd
      rcases E with ⟨hz, X⟩ | h7
      · rw [if_pos hz]
        dsimp only
        obtain ⟨G2, R⟩ := reach_ok (most := most) hx hy n q.2.1 G.wf G.sm (by rw [X.lv]; omega) (by rw [X.lv]; omega)
        refine ⟨G.trans G2, ?_⟩
        rcases R with ⟨hz2, R⟩ | h7
        · refine .inl ⟨hz2, ?_, R.has, ?_, fun qx qy => (R.gt qx qy).trans (X.gt qx qy), R.tt.trans X.tt⟩
          · have := R.low; rw [X.lv] at this; omega
          · intro l h2 h3
            by_cases e : l = lev σ r
            · subst e; simpa using hin
            · exact R.least l (by rw [X.lv]; omega) h3
        · exact .inr h7
      · rw [if_neg (by omega)]
        exact ⟨G, .inr h7⟩

/-- What Set hands back when nothing is wrong. -/
structure PutOk (σ τ : List Nd) (r y : Nat) (px py : Int) (alive : Bool) : Prop where
  low : lev σ r ≤ lev τ y
  has : inSq (lev τ y) px py = true
  least : ∀ l : Int, lev σ r ≤ l → l < lev τ y → inSq l px py = false
  gt : ∀ qx qy, get τ y qx qy = if qx = px ∧ qy = py then alive else get σ r qx qy
  tt : tot τ (lev τ y).toNat y + (if get σ r px py then 1 else 0) = tot σ (lev σ r).toNat r + (if alive then 1 else 0)

theorem setP_ok {most : Nat} {px py : Int} (hx : -2305843009213693952 ≤ px ∧ px < 2305843009213693952) (hy : -2305843009213693952 ≤ py ∧ py < 2305843009213693952) (alive : Bool)
    {σ : List Nd} (r : Nat) (W : Wf σ) (S : Sm σ) (h1 : 1 ≤ lev σ r) :
    Grew σ (setP σ most r px py alive).1 ∧ (((setP σ most r px py alive).2.2 = 0 ∧ PutOk σ (setP σ most r px py alive).1 r (setP σ most r px py alive).2.1 px py alive) ∨ (setP σ most r px py alive).2.2 = 7) := by
  have R := reach_ok (most := most) hx hy 62 r W S h1 (by omega)
  unfold setP
  generalize reach most px py 62 σ r = q at R ⊢
  obtain ⟨G, R⟩ := R
  unfold bnd
  rcases R with ⟨hz, R⟩ | h7
  · rw [if_pos hz]
    dsimp only
    have h0 := R.low
    obtain ⟨m, hm⟩ : ∃ m : Nat, lev q.1 q.2.1 = (m + 1 : Nat) := ⟨(lev q.1 q.2.1 - 1).toNat, by omega⟩
    have hin := R.has
    rw [inSq_iff, hm, hf_nat] at hin
    have hp := pow1 m
    have C := setC_ok (most := most) alive G.wf G.sm (m + 1) q.2.1 (px + 2 ^ m) (py + 2 ^ m) hm (by omega) (by omega)
    rw [hm, Int.toNat_natCast, hf_nat]
    generalize setC q.1 most (m + 1) q.2.1 (px + 2 ^ m) (py + 2 ^ m) alive = v at C ⊢
    obtain ⟨G2, C⟩ := C
    refine ⟨G.trans G2, ?_⟩
    rcases C with ⟨hz2, C⟩ | h7
    · have hlv := C.lv
      have hg : ∀ qx qy, get v.1 v.2.1 qx qy = if qx = px ∧ qy = py then alive else get q.1 q.2.1 qx qy := by
        intro qx qy
        have i1 := inSq_iff ((m + 1 : Nat) : Int) qx qy
        rw [hf_nat] at i1
        unfold get
        rw [hlv, hm, Int.toNat_natCast, hf_nat]
        generalize inSq ((m + 1 : Nat) : Int) qx qy = a at i1 ⊢
        cases a
        · have : ¬ (qx = px ∧ qy = py) := fun h => by
            have := i1.2 (by omega)
            cases this
          simp [this]
        · have h2 := i1.1 rfl
          rw [C.cl _ _ (by omega) (by omega)]
          by_cases h : qx = px ∧ qy = py
          · rw [if_pos h, if_pos (by omega)]; simp
          · rw [if_neg h, if_neg (by omega)]
      refine .inl ⟨hz2, ?_, ?_, ?_, ?_, ?_⟩
      · rw [hlv]; omega
      · rw [hlv, ← hm]; exact R.has
      · rw [hlv, ← hm]; exact R.least
      · intro qx qy
        rw [hg, R.gt]
      · have t := C.tt
        rw [hlv, Int.toNat_natCast, ← R.tt, hm, Int.toNat_natCast, ← t, ← R.gt]
        have e : get q.1 q.2.1 px py = cell q.1 (m + 1) q.2.1 (px + 2 ^ m) (py + 2 ^ m) := by
          unfold get
          have := R.has
          rw [hm] at this
          rw [hm, this, Int.toNat_natCast, hf_nat]; simp
        rw [e]
    · exact .inr h7
  · rw [if_neg (by omega)]
    exact ⟨G, .inr h7⟩

/-! ### of one level the same cells have one square -/
theorem canon {σ : List Nd} (W : Wf σ) : ∀ (n x y : Nat), lev σ x = n → lev σ y = n → (∀ px py : Int, (0 ≤ px ∧ px < 2 ^ n) → (0 ≤ py ∧ py < 2 ^ n) → cell σ n x px py = cell σ n y px py) → x = y
  | 0, x, y, hx, hy, h => by
    have := h 0 0 (by simp) (by simp)
    simp only [cell, decide_eq_decide] at this
    rcases lev0 W hx with rfl | rfl <;> rcases lev0 W hy with rfl | rfl <;> simp at this <;> rfl
  | n + 1, x, y, hx, hy, h => by
    have hp := pow1 n
    have h0 := pow_pos' n
    have hk : kidsOf σ x = kidsOf σ y := by
      refine K4.ext4 fun j hj => canon W n _ _ (kid_ok W hx j).2 (kid_ok W hy j).2 fun px py h1 h2 => ?_
      have := h (px + (if j % 2 = 1 then 2 ^ n else 0)) (py + (if 2 ≤ j then 2 ^ n else 0)) (by split <;> omega) (by split <;> omega)
      simp only [cell] at this
      have e : qi (2 ^ n) (px + (if j % 2 = 1 then 2 ^ n else 0)) (py + (if 2 ≤ j then 2 ^ n else 0)) = j ∧ qc (2 ^ n) (px + (if j % 2 = 1 then 2 ^ n else 0)) = px ∧ qc (2 ^ n) (py + (if 2 ≤ j then 2 ^ n else 0)) = py := by
        have hq : ∀ (z : Int) (b : Prop) [Decidable b], (0 ≤ z ∧ z < 2 ^ n) → qc (2 ^ n) (z + (if b then 2 ^ n else 0)) = z ∧ (2 ^ n ≤ z + (if b then 2 ^ n else 0) ↔ b) := by
          intro z b _ hz
          by_cases hb : b
          · simp only [hb, if_true, qc]; rw [if_pos (by omega)]; constructor <;> (try simp) <;> omega
          · simp only [hb, if_false, qc]; rw [if_neg (by omega)]; constructor <;> (try simp) <;> omega
        refine ⟨?_, (hq px _ h1).1, (hq py _ h2).1⟩
        unfold qi
        simp only [(hq px _ h1).2, (hq py _ h2).2]
        obtain rfl | rfl | rfl | rfl : j = 0 ∨ j = 1 ∨ j = 2 ∨ j = 3 := by omega
        all_goals rfl
      rw [e.1, e.2.1, e.2.2] at this
      exact this
    have hxl := lt_of_lev (show 0 ≤ lev σ x by omega)
    have hyl := lt_of_lev (show 0 ≤ lev σ y by omega)
    have gx : σ[x]? = some σ[x] := List.getElem?_eq_getElem hxl
    have gy : σ[y]? = some σ[y] := List.getElem?_eq_getElem hyl
    rw [get_kids gx, get_kids gy] at hk
    exact W.once x y _ _ (two_le W (by omega)) (two_le W (by omega)) gx gy hk
end Go.Proofs.Ytkelfgigigcnjaa
