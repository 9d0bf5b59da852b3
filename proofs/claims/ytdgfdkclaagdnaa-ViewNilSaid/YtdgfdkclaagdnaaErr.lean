import Derived.Test.YtdgfdkclaagdnaaMix
import Derived.Test.YtdgfdkclaagdnaaReg
import Derived.LaidEql
import Derived.Stop.Asserts
import Derived.RowKitTokens
namespace Go.Proofs.Ytdgfdkclaagdnaa
open Go.RowKit Go.Bv Go.Extern.Stop Go.Stop Go.Extern

theorem run_equalIn_iface_int {P : Program} (w : World) (d : Nat) {ti tn : TypeId} {ms : Array (String × TypeId)} {i : TypeInfo} {k : IntKind} (a b : Int)
    (hi : P.underlying ti = some (.interface ms)) (hn : P.underlying tn = some (.int k)) (hinfo : P.info? tn = some i) (hcomp : i.comparable = true) :
    (Op.equalIn (d + 2) ti (.iface tn (.int k a)) (.iface tn (.int k b))).run P w = .ok (a == b) w := by
  simp [Op.equalIn, run_underlying hi, run_underlying hn, typeInfo, hinfo, hcomp]
/-- 'x == y', both interface values of ONE integer type: as the numbers are. -/
theorem run_eql_iface_int {P : Program} (w : World) {ti tn : TypeId} {ms : Array (String × TypeId)} {i : TypeInfo} {k : IntKind} (a b : Int)
    (hi : P.underlying ti = some (.interface ms)) (hn : P.underlying tn = some (.int k)) (hinfo : P.info? tn = some i) (hcomp : i.comparable = true) :
    (binOp .eql ti (.iface tn (.int k a)) (.iface tn (.int k b))).run P w = .ok (.bool (a == b)) w := by
  simp only [binOp]
  simp [Op.equal, Op.maxDepth, run_equalIn_iface_int w 9998 a b hi hn hinfo hcomp]

theorem Try.isTypeOf (v : Value) (w : World) : (Extern.ReflectliteType.typeOf #[.iface 28 v]).run Try.prog w = .ok (.iface 154 (.agg #[.pointer (some ⟨0, 28, none⟩)])) w := by kernel_rfl
theorem Try.isComparable (w : World) : ((Extern.ReflectliteType.method fun t => do Extern.Rtype.noPackHeld "Comparable" t; (fun a => Value.bool a.comparable) <$> typeInfo t) #[.agg #[.pointer (some ⟨0, 28, none⟩)]]).run Try.prog w = .ok (.bool true) w := by kernel_rfl
theorem Try.isMethodComparable (v : Value) (w : World) : (Go.method 369 154 v "Comparable").run Try.prog w = .ok (204, v) w := by kernel_rfl
theorem Try.isComp : (Try.prog.info? 28).map (·.comparable) = some true := by kernel_rfl
theorem Try.noIsE (v : Value) (xT : TypeId) (w : World) : (Instr.typeAssert (.iface 28 v) xT 156 true).run Try.prog w = .ok (.tuple #[.nilIface, .bool false]) w := run_typeAssert_lacksB Try.underlying156 (by kernel_rfl) (by kernel_rfl) v xT w
theorem Try.noUnwrapE (v : Value) (xT : TypeId) (w : World) : (Instr.typeAssert (.iface 28 v) xT 159 true).run Try.prog w = .ok (.tuple #[.nilIface, .bool false]) w := run_typeAssert_lacksB Try.underlying159 (by kernel_rfl) (by kernel_rfl) v xT w
theorem Try.noUnwrapsE (v : Value) (xT : TypeId) (w : World) : (Instr.typeAssert (.iface 28 v) xT 160 true).run Try.prog w = .ok (.tuple #[.nilIface, .bool false]) w := run_typeAssert_lacksB Try.underlying160 (by kernel_rfl) (by kernel_rfl) v xT w

set_option maxRecDepth 100000 in
/-- errors.Is of two numbers. -/
theorem is_errno (a n : Int) (w : World) :
    Calls Try.prog 37 #[.iface 28 (.int .i64 a), .iface 28 (.int .i64 n)] w fun e w' => e = .returned (.bool (a == n)) ∧ w = w' := by
  obtain ⟨i, hi, hcmp⟩ := Option.map_eq_some_iff.1 Try.isComp
  have h8 := @run_callFunc_extern Try.prog 59 _ Extern.ReflectliteType.typeOf Try.func59 (by kernel_rfl) (by kernel_rfl) (by kernel_rfl) (by kernel_rfl)
  have h32 := @run_callFunc_extern Try.prog 204 _ (Extern.ReflectliteType.method fun t => do Extern.Rtype.noPackHeld "Comparable" t; pure (.bool (← typeInfo t).comparable)) Try.func204 (by kernel_rfl) (by kernel_rfl) (by kernel_rfl) (by kernel_rfl)
  have tT := Try.isTypeOf
  have cT := Try.isComparable
  have mR := Try.isMethodComparable
  have nE := Try.noIsE
  have uE := Try.noUnwrapE
  have vE := Try.noUnwrapsE
  have heq := run_eql_iface_int (P := Try.prog) w a n Try.underlying26 Try.underlying28 hi hcmp
  by_cases han : a = n
  · have hb : (a == n) = true := by simpa using han
    clear han
    go_enter Try.func37, Try.ntmps37
    go_wp2
    refine wp_loop_rounds 1 ?_
    rw [rounds_succ]
    go_wp2
    go_ret
    exact ⟨by rw [hb]; rfl, rfl⟩
  · have hb : (a == n) = false := by simpa using han
    clear han
    go_enter Try.func37, Try.ntmps37
    go_wp2
    refine wp_loop_rounds 1 ?_
    rw [rounds_succ]
    go_wp2
    go_ret
    exact ⟨by rw [hb]; rfl, rfl⟩

set_option maxRecDepth 100000 in
set_option maxHeartbeats 400000 in
/-- fault.Is of a number and one number. -/
theorem fis_one (a n : Int) (b o c : Nat) (w : World) (hn : n ≠ 0) (hc : w.cell? ⟨b, o, none⟩ = some (.int .i64 n)) :
    Calls Try.prog 8 #[.iface 28 (.int .i64 a), .slice (some ⟨b, o, none⟩) 1 c] w fun e w' => e = .returned (.bool (a == n)) ∧ w = w' := by
  have h0 : (n == 0) = false := by simpa using hn
  have h1 : (n != 0) = true := by simpa using hn
  by_cases han : a = n
  · have hb : (a == n) = true := by simpa using han
    clear han hn
    go_enter Try.func8, Try.ntmps8
    go_wp2
    refine wp_loop_rounds 1 ?_
    rw [rounds_succ]
    go_wp2_with (go_at_call 37; refine (is_errno _ _ _).mono ?_; rintro e w1 ⟨rfl, rfl⟩)
    go_ret
    exact ⟨by rw [hb]; rfl, rfl⟩
  · have hb : (a == n) = false := by simpa using han
    clear han hn
    go_enter Try.func8, Try.ntmps8
    go_wp2
    refine wp_loop_rounds 2 ?_
    rw [rounds_succ]
    go_wp2_with (go_at_call 37; refine (is_errno _ _ _).mono ?_; rintro e w1 ⟨rfl, rfl⟩)
    rw [rounds_succ]
    go_wp2
    go_ret
    exact ⟨by rw [hb]; rfl, rfl⟩

/-- The same, the number in a new block. -/
theorem fis_new (a n : Int) (b : Nat) (w : World) (hn : n ≠ 0) (hb : b = w.heap.size) :
    Calls Try.prog 8 #[.iface 28 (.int .i64 a), .slice (some ⟨b, 0, none⟩) 1 1] (w.alloc (.cells #[.int .i64 n] 28)) fun e w' => e = .returned (.bool (a == n)) ∧ w.alloc (.cells #[.int .i64 n] 28) = w' := by
  subst hb
  exact fis_one a n _ _ _ _ hn (by simp)
end Go.Proofs.Ytdgfdkclaagdnaa
