import Derived.WalkKit
import Derived.WalkSpells
import Derived.WalkLawsBesides
namespace Go.Bv
open Go.RowKit

/-- A map's block: its entries and its clock. -/
def mapAt (w : World) (r : Nat) : Option (Array MapEntry × Nat) :=
  match w.heap[r]? with
  | some (.map es ck) => some (es, ck)
  | _ => none

/-- The world with other entries in a map's block. -/
def setMap (w : World) (r : Nat) (m : Array MapEntry × Nat) : World := { w with heap := w.heap.setIfInBounds r (.map m.1 m.2) }

section
variable (w : World) (r : Nat) (es : Array MapEntry) (ck : Nat) (m' : Array MapEntry × Nat) (o : Obj) (a : Addr) (v : Value)

theorem mapAt_heap {w : World} {r : Nat} {m : Array MapEntry × Nat} (h : mapAt w r = some m) : w.heap[r]? = some (.map m.1 m.2) := by
  unfold mapAt at h
  split at h
  · rename_i es ck he; rw [he]; cases h; rfl
  · cases h
theorem mapAt_of_heap {w : World} {r : Nat} {es : Array MapEntry} {ck : Nat} (h : w.heap[r]? = some (.map es ck)) : mapAt w r = some (es, ck) := by
  unfold mapAt; rw [h]
theorem mapAt_lt {w : World} {r : Nat} {m : Array MapEntry × Nat} (h : mapAt w r = some m) : r < w.heap.size :=
  (Array.getElem?_eq_some_iff.1 (mapAt_heap h)).1

@[go_sem, simp] theorem mapAt_drew : mapAt w.drew r = mapAt w r := rfl
@[go_sem] theorem mapAt_alloc_new : mapAt (w.alloc (.map es ck)) w.heap.size = some (es, ck) := mapAt_of_heap (heap_alloc_new _ _)
theorem mapAt_of_block {w w' : World} {r : Nat} (h : w'.heap[r]? = w.heap[r]?) : mapAt w' r = mapAt w r := by simp [mapAt, h]
@[go_sem] theorem mapAt_alloc_lt (h : r < w.heap.size) : mapAt (w.alloc o) r = mapAt w r := mapAt_of_block (heap_alloc_old _ _ h)
@[go_sem, simp] theorem mapAt_setCell : mapAt (w.setCell a v) r = mapAt w r := by
  simp only [mapAt, World.setCell, Array.getElem?_modify]
  by_cases h : a.block = r
  · simp only [h, if_true]
    cases hh : w.heap[r]? with
    | none => simp
    | some x => cases x <;> simp
  · simp [h]

@[go_sem, simp] theorem size_setMap : (setMap w r m').heap.size = w.heap.size := by simp [setMap]
@[go_sem, simp] theorem tape_setMap : (setMap w r m').tape = w.tape := rfl
theorem heap_setMap (k : Nat) (h : k ≠ r) : (setMap w r m').heap[k]? = w.heap[k]? := by
  simp only [setMap]
  rw [Array.getElem?_setIfInBounds_ne (by omega)]
@[go_sem] theorem mapAt_setMap_same (h : r < w.heap.size) : mapAt (setMap w r m') r = some m' := by
  simp [mapAt, setMap, h]
@[go_sem] theorem mapAt_setMap_other {k : Nat} (h : k ≠ r) : mapAt (setMap w r m') k = mapAt w k := mapAt_of_block (heap_setMap _ _ _ _ h)
/-- a map's block has no cells: a store into it turns none -/
@[go_sem] theorem cell?_setMap (h : (mapAt w r).isSome = true) : (setMap w r m').cell? a = w.cell? a := by
  obtain ⟨m, hm⟩ := Option.isSome_iff_exists.1 h
  have hh := mapAt_heap hm
  have hl := mapAt_lt hm
  unfold World.cell?
  by_cases e : a.block = r
  · subst e; rw [hh]; simp [setMap, hl]
  · rw [heap_setMap _ _ _ _ e]
@[go_sem] theorem frozen?_setMap (h : (mapAt w r).isSome = true) : (setMap w r m').frozen? a = w.frozen? a := by
  obtain ⟨m, hm⟩ := Option.isSome_iff_exists.1 h
  have hh := mapAt_heap hm
  have hl := mapAt_lt hm
  unfold World.frozen?
  by_cases e : a.block = r
  · subst e; rw [hh]; simp [setMap, hl]
  · rw [heap_setMap _ _ _ _ e]
end

section
variable {P : Program} {w : World} {r : Nat} {m : Array MapEntry × Nat}

theorem run_getObj_at (h : mapAt w r = some m) : (getObj r).run P w = .ok (.map m.1 m.2) w := by
  simp [getObj, Sem.run, mapAt_heap h]
theorem run_setObj_at (m' : Array MapEntry × Nat) (h : mapAt w r = some m) : (setObj r (.map m'.1 m'.2)).run P w = .ok () (setMap w r m') := by
  simp [setObj, Sem.run, mapAt_heap h, setMap]
/-- len of a map -/
theorem run_len_at {t ty k e : TypeId} (ht : P.underlying t = some (.map k e)) (h : mapAt w r = some m) :
    (Builtin.len_ #[t] ty #[.map (some r)]).run P w = .ok (.int .i64 m.1.size) w := by
  simp [Builtin.len_, run_underlying ht, run_getObj_at h, goInt]
end

theorem below_setMap {B : Nat} {a w : World} (h : Below B a w) {r : Nat} (hr : B ≤ r) (m : Array MapEntry × Nat) : Below B a (setMap w r m) :=
  h.trans ⟨rfl, rfl, rfl, by simp [setMap], fun k hk => heap_setMap _ _ _ _ (by omega)⟩

/-- What the model's search finds: a pure function of the entries, where two keys are compared by 'eq'. -/
def mfind (eq : Value → Value → Bool) (k : Value) : List MapEntry → Nat → Option (Nat × Value)
  | [], _ => none
  | e :: es, i => if eq k e.key then some (i, e.val) else mfind eq k es (i + 1)

/-- the keys of a type are compared by a Bool function, and pass the key's check -/
structure KeyEq (P : Program) (kt : TypeId) (ok : Value → Prop) (eq : Value → Value → Bool) : Prop where
  find : ∀ (w : World) (k : Value) (es : List MapEntry), ok k → (∀ e ∈ es, ok e.key) → (Instr.findKey kt k es).run P w = .ok (mfind eq k es 0) w
  check : ∀ (w : World) (em : Bool) (k : Value), ok k → (Instr.checkKey em 10000 kt k).run P w = .ok () w
  stays : ∀ (k k' : Value), ok k → ok k' → eq k k' = true → k = k'
  same : ∀ (w : World) (k : Value), ok k → (Instr.keyThatStays k k).run P w = .ok k w

def IntOf (q : IntKind) (v : Value) : Prop := ∃ a, v = .int q a
def intEq : Value → Value → Bool | .int _ a, .int _ b => a == b | _, _ => false

@[simp] theorem intOf_mk (q : IntKind) (a : Int) : IntOf q (.int q a) := ⟨a, rfl⟩
theorem findNow_int {q : IntKind} {a : Int} : ∀ (es : List MapEntry) (i : Nat), (∀ e ∈ es, IntOf q e.key) →
    Instr.findNow (.int q) (.int q a) es i = some (mfind intEq (.int q a) es i)
  | [], i, _ => rfl
  | e :: es, i, h => by
    obtain ⟨b, hb⟩ := h e (by simp)
    have ih := findNow_int (a := a) es (i + 1) (fun e he => h e (by simp [he]))
    unfold Instr.findNow mfind
    rw [hb]
    simp only [Instr.sameNow, if_true, intEq]
    by_cases hab : a = b
    · subst hab; simp
    · have h1 : (a == b) = false := by simpa using hab
      simp [h1, ih]

theorem KeyEq.int {P : Program} {kt : TypeId} {q : IntKind} (ht : P.underlying kt = some (.int q)) : KeyEq P kt (IntOf q) intEq where
  find w k es hk hes := by
    obtain ⟨a, rfl⟩ := hk
    simp only [Instr.findKey, Sem.run_bind, run_underlying ht, Result.andThen_ok, findNow_int es 0 hes, Sem.run_pure]
  check w em k hk := by
    obtain ⟨a, rfl⟩ := hk
    unfold Instr.checkKey
    simp only [Sem.run_bind, run_underlying ht, Result.andThen_ok, Sem.run_pure]
  stays k k' hk hk' h := by
    obtain ⟨a, rfl⟩ := hk
    obtain ⟨b, rfl⟩ := hk'
    simp [intEq] at h
    rw [h]
  same w k hk := by
    obtain ⟨a, rfl⟩ := hk
    simp [Instr.keyThatStays, Instr.sameBits]

/-- the entries behind m[k] = v -/
def mput (eq : Value → Value → Bool) (k v : Value) (m : Array MapEntry × Nat) : Array MapEntry × Nat :=
  match mfind eq k m.1.toList 0 with
  | some (i, _) => (m.1.modify i fun e => { e with key := k, val := v }, m.2)
  | none => (m.1.push { key := k, val := v, born := m.2 }, m.2 + 1)
/-- the entries behind delete(m, k) -/
def mdel (eq : Value → Value → Bool) (k : Value) (m : Array MapEntry × Nat) : Array MapEntry × Nat :=
  match mfind eq k m.1.toList 0 with
  | some (i, _) => (m.1.eraseIdxIfInBounds i, m.2)
  | none => m

section
variable {P : Program} {kt : TypeId} {ok : Value → Prop} {eq : Value → Value → Bool} (K : KeyEq P kt ok eq)
include K

/-- m[k], with or without ok, in a map that is there -/
theorem run_lookup_at {w : World} {r : Nat} {m : Array MapEntry × Nat} {t e : TypeId} {z : Value} (ht : P.underlying t = some (.map kt e)) (hz : (zeroValue e).run P w = .ok z w)
    (h : mapAt w r = some m) {k : Value} (hk : ok k) (hes : ∀ x ∈ m.1.toList, ok x.key) (c : Bool) :
    (Instr.lookup t (.map (some r)) k c).run P w = .ok (if c then .tuple #[((mfind eq k m.1.toList 0).map (·.2)).getD z, .bool (mfind eq k m.1.toList 0).isSome] else ((mfind eq k m.1.toList 0).map (·.2)).getD z) w := by
  simp only [Instr.lookup, run_underlying ht, Sem.run_bind, Result.andThen_ok, run_getObj_at h, K.check w _ k hk, K.find w k _ hk hes, Sem.run_pure]
  cases mfind eq k m.1.toList 0 with
  | none => simp [hz]
  | some x => obtain ⟨i, v⟩ := x; simp

theorem mfind_spec {k : Value} (hk : ok k) : ∀ (es : List MapEntry) (n i : Nat) (v : Value), (∀ x ∈ es, ok x.key) → mfind eq k es n = some (i, v) → n ≤ i ∧ ∃ e, es[i - n]? = some e ∧ e.key = k ∧ e.val = v
  | [], _, _, _, _, h => by cases h
  | e :: es, n, i, v, hes, h => by
    unfold mfind at h
    split at h
    · rename_i he
      cases h
      have := K.stays k e.key hk (hes e (by simp)) he
      exact ⟨Nat.le_refl _, e, by simp, this.symm, rfl⟩
    · obtain ⟨h1, e', h2, h3⟩ := mfind_spec hk es (n + 1) i v (fun x hx => hes x (by simp [hx])) h
      refine ⟨by omega, e', ?_, h3⟩
      rw [show i - n = (i - (n + 1)) + 1 by omega]
      simpa using h2

theorem run_mapUpdate_at {w : World} {r : Nat} {m : Array MapEntry × Nat} {t e : TypeId} (ht : P.underlying t = some (.map kt e))
    (h : mapAt w r = some m) {k : Value} (hk : ok k) (hes : ∀ x ∈ m.1.toList, ok x.key) (v : Value) :
    (Instr.mapUpdate t (.map (some r)) k v).run P w = .ok () (setMap w r (mput eq k v m)) := by
  simp only [Instr.mapUpdate, run_underlying ht, Sem.run_bind, Result.andThen_ok, run_getObj_at h, K.check w _ k hk, K.find w k _ hk hes]
  cases hf : mfind eq k m.1.toList 0 with
  | none => simp only [mput, hf]; exact run_setObj_at (_, _) h
  | some x =>
    obtain ⟨i, u⟩ := x
    obtain ⟨_, e', h2, h3, h4⟩ := mfind_spec K hk m.1.toList 0 i u hes hf
    have h5 : ((m.1[i]?).map (·.key)).getD k = k := by
      have : m.1[i]? = some e' := by simpa using h2
      rw [this]; simp [h3]
    simp only [mput, hf, h5, Sem.run_bind, K.same w k hk, Result.andThen_ok]
    exact run_setObj_at (_, _) h

theorem run_delete_at {w : World} {r : Nat} {m : Array MapEntry × Nat} {t e kt' ty : TypeId} (ht : P.underlying t = some (.map kt e))
    (h : mapAt w r = some m) {k : Value} (hk : ok k) (hes : ∀ x ∈ m.1.toList, ok x.key) :
    (Builtin.delete_ #[t, kt'] ty #[.map (some r), k]).run P w = .ok (.tuple #[]) (setMap w r (mdel eq k m)) := by
  simp only [Builtin.delete_, List.getElem?_toArray, List.getElem?_cons_zero, List.getElem?_cons_succ, Sem.run_bind, run_underlying ht, Result.andThen_ok, run_getObj_at h, K.check w _ k hk, K.find w k _ hk hes]
  cases hf : mfind eq k m.1.toList 0 with
  | none => simp only [mdel, hf, Sem.run_bind, run_setObj_at m h]; rfl
  | some x => obtain ⟨i, u⟩ := x; simp only [mdel, hf, Sem.run_bind, run_setObj_at (m.1.eraseIdxIfInBounds i, m.2) h]; rfl
end
end Go.Bv
