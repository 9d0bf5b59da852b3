import Derived.WalkKit
import Derived.KernelRfl
namespace Go.Bv

/-- part i of an aggregate of one-cell integers -/
theorem run_part_int {P : Program} (w : World) {e : TypeId} {q : IntKind} (he : P.underlying e = some (.int q)) (cs : Array Value) (i : Nat) (v : Value) (hv : cs[i]? = some v) : (part e cs i).run P w = .ok v w := by
  simp [part, isAgg, run_underlying he, hv]

theorem run_eqArr {P : Program} (w : World) {e : TypeId} {q : IntKind} (he : P.underlying e = some (.int q)) (hs : ∀ w, (sizeOf e).run P w = .ok 1 w) (d : Nat) (xs ys : List Int) (hl : xs.length = ys.length) (t : TypeId) (ht : P.underlying t = some (.array xs.length e)) :
    (Op.equalIn (d + 2) t (.agg (xs.map (Value.int q)).toArray) (.agg (ys.map (Value.int q)).toArray)).run P w = .ok (decide (xs = ys)) w := by
  have key : ∀ (n s : Nat), s + n = xs.length →
      ((forIn (List.range' s n) ((none : Option Bool), ()) fun i (_ : Option Bool × Unit) => (do
          if (!(← Op.equalIn (d + 1) e (← part e (xs.map (Value.int q)).toArray (i * 1)) (← part e (ys.map (Value.int q)).toArray (i * 1)))) = true then pure (ForInStep.done (some false, ())) else pure (ForInStep.yield (none, ())) : Sem (ForInStep (Option Bool × Unit)))).run P w)
        = .ok (if xs.drop s = ys.drop s then (none, ()) else (some false, ())) w := by
    intro n
    induction n with
    | zero =>
      intro s hs
      rw [List.drop_of_length_le (by omega), List.drop_of_length_le (by omega)]
      simp
    | succ n ih =>
      intro s hsn
      have hx : (xs.map (Value.int q)).toArray[s * 1]? = some (.int q xs[s]) := by simp [show s < xs.length by omega]
      have hy : (ys.map (Value.int q)).toArray[s * 1]? = some (.int q ys[s]) := by simp [show s < ys.length by omega]
      rw [List.range'_succ]
      simp only [List.forIn_cons, Sem.run_bind, run_part_int w he _ _ _ hx, run_part_int w he _ _ _ hy, Result.andThen_ok, run_equalIn_int w d e q q _ _ he]
      rw [List.drop_eq_getElem_cons (show s < xs.length by omega), List.drop_eq_getElem_cons (show s < ys.length by omega)]
      by_cases h : xs[s] = ys[s]
      · simp only [h, beq_self_eq_true, Bool.not_true, Bool.false_eq_true, if_false, Sem.run_pure, Result.andThen_ok, List.cons.injEq, true_and]
        exact ih (s + 1) (by omega)
      · have h' : (xs[s] == ys[s]) = false := by simpa using h
        simp only [h', Bool.not_false, if_true, Sem.run_pure, Result.andThen_ok]
        rw [if_neg (fun e => h (List.cons.inj e).1)]
  have k0 := key xs.length 0 (by omega)
  simp only [List.drop_zero] at k0
  unfold Op.equalIn
  simp only [Sem.run_bind, run_underlying ht, Result.andThen_ok, hs, Std.Legacy.Range.forIn_eq_forIn_range', Std.Legacy.Range.size, Nat.sub_zero, Nat.add_sub_cancel, Nat.div_one]
  rw [k0]
  by_cases h : xs = ys <;> simp [h]

/-- '==' and '!=' of two arrays of integers. -/
theorem run_eqlArr {P : Program} (w : World) {e : TypeId} {q : IntKind} (he : P.underlying e = some (.int q)) (hs : ∀ w, (sizeOf e).run P w = .ok 1 w) (xs ys : List Int) (hl : xs.length = ys.length) (t : TypeId) (ht : P.underlying t = some (.array xs.length e)) :
    (binOp .eql t (.agg (xs.map (Value.int q)).toArray) (.agg (ys.map (Value.int q)).toArray)).run P w = .ok (.bool (decide (xs = ys))) w := by
  simp only [binOp, Op.equal, Op.maxDepth, Sem.run_bind, run_eqArr w he hs 9998 xs ys hl t ht, Result.andThen_ok, Sem.run_pure]
theorem run_neqArr {P : Program} (w : World) {e : TypeId} {q : IntKind} (he : P.underlying e = some (.int q)) (hs : ∀ w, (sizeOf e).run P w = .ok 1 w) (xs ys : List Int) (hl : xs.length = ys.length) (t : TypeId) (ht : P.underlying t = some (.array xs.length e)) :
    (binOp .neq t (.agg (xs.map (Value.int q)).toArray) (.agg (ys.map (Value.int q)).toArray)).run P w = .ok (.bool (!decide (xs = ys))) w := by
  simp only [binOp, Op.equal, Op.maxDepth, Sem.run_bind, run_eqArr w he hs 9998 xs ys hl t ht, Result.andThen_ok, Sem.run_pure]
/-- Two values that hold no interface value are compared without a guard. -/
theorem run_guardArr {P : Program} (w : World) {t : TypeId} (h : P.eqGuardType P.depth t = false) (op : BinOp) (x y : Operand) (a b : Array Value) :
    (eqGuard op t x y (.agg a) (.agg b)).run P w = .ok () w := by
  cases op <;> simp [eqGuard, h]
end Go.Bv
