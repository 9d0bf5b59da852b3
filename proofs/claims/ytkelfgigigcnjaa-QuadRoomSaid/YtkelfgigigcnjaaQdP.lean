/-
  Planes, in plain Lean: what quad's functions compute.
-/
import Derived.Test.YtkelfgigigcnjaaStE
namespace Go.Proofs.Ytkelfgigigcnjaa
open Go.RowKit Go.Bv

/-- Half the side of a square of a level. -/
def hf (l : Int) : Int := (2 : Int) ^ (l - 1).toNat
def inSq (l : Int) (px py : Int) : Bool := decide (-hf l ≤ px) && decide (px < hf l) && decide (-hf l ≤ py) && decide (py < hf l)
def qi (h px py : Int) : Nat := (if h ≤ px then 1 else 0) + (if h ≤ py then 2 else 0)
def qc (h p : Int) : Int := if h ≤ p then p - h else p
/-- Is a cell of a square of a level alive? -/
def cell (σ : List Nd) : Nat → Nat → Int → Int → Bool
  | 0, x, _, _ => decide (x = 1)
  | n + 1, x, px, py => cell σ n (kth (kidsOf σ x) (qi (2 ^ n) px py)) (qc (2 ^ n) px) (qc (2 ^ n) py)
/-- Of a plane. -/
def get (σ : List Nd) (r : Nat) (px py : Int) : Bool := inSq (lev σ r) px py && cell σ (lev σ r).toNat r (px + hf (lev σ r)) (py + hf (lev σ r))
def withK (k : K4) (i x : Nat) : K4 := match i with | 0 => { k with a := x } | 1 => { k with b := x } | 2 => { k with c := x } | _ => { k with d := x }
/-- One behind the other, as long as nothing is wrong. -/
def bnd (q : List Nd × Nat × Nat) (f : List Nd → Nat → List Nd × Nat × Nat) : List Nd × Nat × Nat := if q.2.2 = 0 then f q.1 q.2.1 else (q.1, 0, q.2.2)
def setC (σ : List Nd) (most : Nat) : Nat → Nat → Int → Int → Bool → List Nd × Nat × Nat
  | 0, _, _, _, alive => (σ, if alive then 1 else 0, 0)
  | n + 1, x, px, py, alive => bnd (setC σ most n (kth (kidsOf σ x) (qi (2 ^ n) px py)) (qc (2 ^ n) px) (qc (2 ^ n) py) alive) fun σ' y => mk σ' most (withK (kidsOf σ x) (qi (2 ^ n) px py) y)
/-- The four squares about a square's four, one behind the other. -/
def exS (σ : List Nd) (most o : Nat) (k : K4) : Nat → List Nd × K4 × Nat
  | 0 => (σ, ⟨0, 0, 0, 0⟩, 0)
  | j + 1 => if (exS σ most o k j).2.2 = 0 then
      ((mk (exS σ most o k j).1 most (withK ⟨o, o, o, o⟩ (3 - j) (kth k j))).1, withK (exS σ most o k j).2.1 j (mk (exS σ most o k j).1 most (withK ⟨o, o, o, o⟩ (3 - j) (kth k j))).2.1, (mk (exS σ most o k j).1 most (withK ⟨o, o, o, o⟩ (3 - j) (kth k j))).2.2)
    else exS σ most o k j
def expand (σ : List Nd) (most r : Nat) : List Nd × Nat × Nat :=
  if lev σ r < 1 ∨ 62 ≤ lev σ r then (σ, 0, 1) else
  bnd (emp σ most ((lev σ r) - 1).toNat) fun σ0 o => if (exS σ0 most o (kidsOf σ r) 4).2.2 = 0 then mk (exS σ0 most o (kidsOf σ r) 4).1 most (exS σ0 most o (kidsOf σ r) 4).2.1
    else ((exS σ0 most o (kidsOf σ r) 4).1, 0, (exS σ0 most o (kidsOf σ r) 4).2.2)
theorem exS_fail {σ : List Nd} {most o : Nat} {k : K4} {n : Nat} (h : (exS σ most o k n).2.2 ≠ 0) : ∀ m, n ≤ m → exS σ most o k m = exS σ most o k n
  | 0, hm => by have : n = 0 := by omega
                subst this; rfl
  | m + 1, hm => by
    by_cases e : n = m + 1
    · rw [e]
    · have ih := exS_fail h m (by omega)
      rw [exS, ih, if_neg h]
def reach (most : Nat) (px py : Int) : Nat → List Nd → Nat → List Nd × Nat × Nat
  | 0, σ, r => (σ, r, 0)
  | n + 1, σ, r => if inSq (lev σ r) px py then (σ, r, 0) else bnd (expand σ most r) fun σ' r' => reach most px py n σ' r'
def setP (σ : List Nd) (most r : Nat) (px py : Int) (alive : Bool) : List Nd × Nat × Nat :=
  bnd (reach most px py 62 σ r) fun σ' r' => setC σ' most (lev σ' r').toNat r' (px + hf (lev σ' r')) (py + hf (lev σ' r')) alive

/-- A plane's value. -/
def pval (b r : Nat) : Value := .agg #[.pointer (some ⟨b, 0, none⟩), .int .u32 r]
def pt (px py : Int) : Value := .agg #[.int .i64 px, .int .i64 py]
def noP : Value := .agg #[.pointer none, .int .u32 0]

theorem hf_bd {l : Int} (h : l ≤ 62) : 1 ≤ hf l ∧ hf l ≤ 2305843009213693952 := by
  unfold hf
  have h1 : (l - 1).toNat ≤ 61 := by omega
  have h2 : (2 : Int) ^ (l - 1).toNat ≤ 2 ^ 61 := by
    have := Nat.pow_le_pow_right (n := 2) (by omega) h1
    exact_mod_cast this
  have h3 : (0 : Int) < 2 ^ (l - 1).toNat := Int.pow_pos (by omega)
  constructor
  · omega
  · simpa using h2
theorem get_lev {σ : List Nd} {x : Nat} {n : Nd} (h : σ[x]? = some n) : lev σ x = n.level := by unfold lev; rw [h]
theorem get_kids {σ : List Nd} {x : Nat} {n : Nd} (h : σ[x]? = some n) : kidsOf σ x = n.k := by unfold kidsOf; rw [h]
theorem two_le {σ : List Nd} (W : Wf σ) {x : Nat} (h : 1 ≤ lev σ x) : 2 ≤ x := by
  apply Classical.byContradiction
  intro hn
  obtain rfl | rfl : x = 0 ∨ x = 1 := by omega
  · rw [get_lev W.n0] at h; simp [nd0] at h
  · rw [get_lev W.n1] at h; simp [nd1] at h
theorem kid_ok {σ : List Nd} (W : Wf σ) {x n : Nat} (h : lev σ x = (n + 1 : Nat)) (i : Nat) :
    kth (kidsOf σ x) i < x ∧ lev σ (kth (kidsOf σ x) i) = n := by
  have hx := lt_of_lev (show 0 ≤ lev σ x by omega)
  have h2 := two_le W (show 1 ≤ lev σ x by omega)
  have hg : σ[x]? = some σ[x] := List.getElem?_eq_getElem hx
  have hl := get_lev hg
  rw [get_kids hg]
  obtain ⟨k1, k2, k3, k4⟩ := W.kids x _ h2 hg
  obtain ⟨_, _, l1, l2, l3, l4⟩ := W.lvl x _ h2 hg
  unfold kth
  split
  · exact ⟨k1, by omega⟩
  · exact ⟨k2, by omega⟩
  · exact ⟨k3, by omega⟩
  · exact ⟨k4, by omega⟩
theorem qc_bd {n : Nat} {p : Int} (h : 0 ≤ p ∧ p < 2 ^ (n + 1)) : 0 ≤ qc (2 ^ n) p ∧ qc (2 ^ n) p < 2 ^ n := by
  rw [Int.pow_succ] at h
  unfold qc
  split <;> omega
theorem qi_lt (h px py : Int) : qi h px py < 4 := by unfold qi; split <;> split <;> omega
theorem setC_wf {σ : List Nd} {most : Nat} (W : Wf σ) (alive : Bool) : ∀ (n x : Nat) (px py : Int), Wf (setC σ most n x px py alive).1 ∧ (setC σ most n x px py alive).2.1 < (setC σ most n x px py alive).1.length
  | 0, x, px, py => by
    have := W.two
    refine ⟨W, ?_⟩
    simp only [setC]
    split <;> omega
  | n + 1, x, px, py => by
    obtain ⟨h1, h2⟩ := setC_wf W (most := most) alive n (kth (kidsOf σ x) (qi (2 ^ n) px py)) (qc (2 ^ n) px) (qc (2 ^ n) py)
    simp only [setC, bnd]
    split
    · exact ⟨Wf_mk h1 _ _, mk_lt _ _ _ h1⟩
    · exact ⟨h1, by have := h1.two; simp; omega⟩
theorem kid_bd {σ : List Nd} (W : Wf σ) (hl : σ.length ≤ 1048576) {x n : Nat} (h : lev σ x = (n + 1 : Nat)) :
    (kidsOf σ x).a < 4294967296 ∧ (kidsOf σ x).b < 4294967296 ∧ (kidsOf σ x).c < 4294967296 ∧ (kidsOf σ x).d < 4294967296 := by
  have hx := lt_of_lev (show 0 ≤ lev σ x by omega)
  have h0 := (kid_ok W h 0).1
  have h1 := (kid_ok W h 1).1
  have h2 := (kid_ok W h 2).1
  have h3 := (kid_ok W h 3).1
  simp only [kth] at h0 h1 h2 h3
  omega
end Go.Proofs.Ytkelfgigigcnjaa
