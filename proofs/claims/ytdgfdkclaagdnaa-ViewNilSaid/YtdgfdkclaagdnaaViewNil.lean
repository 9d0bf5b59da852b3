/-
  It is proved that 'belvederelaw19.ViewNil' returns true whatever the point is, and that the point reads behind the call as it did. No condition.
-/
import Derived.Test.YtdgfdkclaagdnaaVl
import Derived.Test.YtdgfdkclaagdnaaRow
import Derived.Lib.SmallJoins
namespace Go.Proofs.Ytdgfdkclaagdnaa
open Go.RowKit Go.Bv

set_option maxRecDepth 100000 in
theorem clear_nil (n : Int) (w : World) : Calls Try.prog 21 #[.pointer none, .int .i64 n] w fun e w' => e = .returned (.tuple #[]) ∧ w = w' := by
  go_enter Try.func21, Try.ntmps21
  go_wp2
  go_end0
  exact ⟨rfl, rfl⟩
set_option maxRecDepth 100000 in
theorem tell_nil (w : World) : Calls Try.prog 22 #[.pointer none, .agg #[.int .u8 0, .int .i64 0, .int .i64 0, .int .i64 0, .int .i64 0, .bool false, .int .i64 0, .int .u64 0, .int .u64 0, .int .i64 0, .string ⟨#[]⟩, .slice none 0 0]] w
    fun e w' => e = .returned (.iface 28 (.int .i64 1)) ∧ Below w.heap.size w w' := by
  go_enter Try.func22, Try.ntmps22
  go_wp2_with go_in
  go_ret
  exact ⟨rfl, below_a1 w _⟩
set_option maxRecDepth 100000 in
theorem at_nil (x y : Int) (w : World) : Calls Try.prog 23 #[.pointer none, .agg #[.int .i64 x, .int .i64 y]] w fun e w' => e = .returned bits0 ∧ Below w.heap.size w w' := by
  go_enter Try.func23, Try.ntmps23
  go_wp2
  refine bodyPost_ret (v := bits0) (by simp [results, Try.results23, go_sem, bits0]) rfl ⟨by rfl, ?_⟩
  exact below_a2 w _ _
set_option maxRecDepth 100000 in
theorem all_nil (w : World) : Calls Try.prog 24 #[.pointer none] w fun e w' => e = .returned (.slice none 0 0) ∧ w = w' := by
  go_enter Try.func24, Try.ntmps24
  go_wp2
  go_ret
  exact ⟨rfl, rfl⟩
set_option maxRecDepth 100000 in
theorem commits_nil (w : World) : Calls Try.prog 25 #[.pointer none] w fun e w' => e = .returned (.int .i64 0) ∧ w = w' := by
  go_enter Try.func25, Try.ntmps25
  go_wp2
  go_ret
  exact ⟨rfl, rfl⟩

set_option maxRecDepth 100000 in
set_option maxHeartbeats 1000000 in
theorem view_nil (w : World) (x y : Int) :
    Calls Try.prog 5 #[.agg #[.int .i64 x, .int .i64 y]] w fun e w' => e = .returned (.bool true) ∧ Below w.heap.size w w' := by
  have e00 := bits_00
  unfold bits0 at e00
  go_enter Try.func5, Try.ntmps5
  go_wp2_with fail
  refine (lives_v _).mono ?_
  rintro e w1 ⟨rfl, hb1⟩
  have k1 := kept hb1 (blk1_0 w _)
  have HB1 := Lib.hid (below_then (below_a1 w _) hb1)
  have HK1 := Lib.hid k1
  clear hb1 k1
  go_wp2_with (first
    | (go_at_call 21; refine (clear_nil _ _).mono ?_; rintro e w2 ⟨rfl, rfl⟩)
    | (go_at_call 22; refine (tell_nil _).mono ?_; rintro e w2 ⟨rfl, hb2⟩))
  have HB2 := Lib.hid (below_then HB1.out hb2)
  have k2 := kept hb2 HK1.out
  have l2 : w.heap.size < w2.heap.size := (Array.getElem?_eq_some_iff.1 k2).1
  have c0 := cell_of_blk k2 0
  have c1 := cell_of_blk k2 1
  simp at c0 c1
  clear hb2 k2
  refine (fis_new 1 1 _ _ (by decide) rfl).mono ?_
  rintro e w3 ⟨rfl, rfl⟩
  go_wp2_with fail
  refine (at_nil _ _ _).mono ?_
  rintro e w3 ⟨rfl, hb3⟩
  have HB3 := Lib.hid (below_then (below_then HB2.out (below_a1 w2 _)) hb3)
  clear hb3
  unfold bits0
  go_wp2_with fail
  refine (all_nil _).mono ?_
  rintro e w4 ⟨rfl, rfl⟩
  go_wp2_with fail
  refine (commits_nil _).mono ?_
  rintro e w4 ⟨rfl, rfl⟩
  go_wp2
  go_ret
  exact ⟨rfl, HB3.out⟩

open Go.ChangeShapes Go.WideShapes Go.ChangeAt Go.Joins
theorem Try.cellsPt : Try.prog.cellsOf 38 = 2 := by kernel_rfl

set_option maxRecDepth 100000 in
theorem viewNil_lifted (os : Os) (started : os.Started) (H : Type) (enc : TypeId × Value → H) :
    ReturnsInHanded {} Try.checked os 5 .any (Rows.viewNilSpec.pre6 enc Try.prog Try.f5 Rows.viewNilRow.domain false) (Rows.viewNilSpec.post enc Try.prog Try.f5 false true false false) := by
  refine returnsInHanded_of_change (C := Try.checked) own started (by kernel_rfl) Try.func5
    (ChangeSpec.witness6 (enc := enc) (C := Try.checked) false ⟨#[], #[.agg #[.int .i64 0, .int .i64 0]], []⟩ 8 (by kernel_rfl) (by kernel_rfl) (by kernel_rfl) (by kernel_rfl)) ?_
  intro W base args ds gs before hval0 hW hcnd _
  have hval : ∀ (j : Nat) t v, Try.f5.params[j]? = some t → args[j]? = some v → Value.okWide Try.prog W .any base t v := hval0
  have hW' := hW
  obtain ⟨p, q, hA0, hV, rfl, hfz, hnd⟩ := hW
  have hA : DataW.TrodAll enc Try.prog W 0 (fun _ => true) true Try.f5.params.toList args.toList ds p := hA0
  rw [Try.params5] at hA hval
  have hK := hA
  obtain ⟨v0, vs0, d0, ds0, p0, q0, hargs, rfl, rfl, h0, r0⟩ := trodAll_cons hA
  obtain ⟨rfl, rfl, rfl⟩ := trodAll_nil r0
  obtain rfl : args = #[v0] := by cases args; simp_all
  obtain ⟨rfl, rfl⟩ := trodVars_none hV
  obtain ⟨c0, c1, y0, y1, m, rfl, rfl, rfl, hy0, hy1⟩ := open_agg2 Try.underlying38 (by kernel_rfl) Try.cellsPt (hval 0 38 v0 rfl rfl) h0
  obtain ⟨a, e0, rfl, wa⟩ := DataW.trod_int Try.underlying2 hy0
  obtain ⟨b, e1, rfl, wb⟩ := DataW.trod_int Try.underlying2 hy1
  simp at e0 e1
  subst e0 e1
  clear hA0 hval0
  simp only [List.append_nil] at hW'
  refine (view_nil W a b).mono fun e W' ⟨he, hb⟩ => ?_
  subst he
  exact ⟨_, rfl, _, _, _, [], _, [], hW', trodAll_mk1 (shut_bool Try.underlying4 _), trodAll_below laidOut hb _ _ _ _ (by decide +kernel) hK (fun x hx => by simpa using hW'.lt x hx), rfl, hb.frame _, fun h => by cases h⟩

theorem viewNil_holds : Rows.ViewNilSaid :=
  OpenClaim.holds_of_wide 5 Try.f5 rfl rfl rfl rfl rfl rfl rfl ⟨rfl, rfl, rfl, rfl, rfl⟩ rfl rfl rfl rfl rfl (by kernel_rfl) Try.func5 (by kernel_rfl)
    (of_decide_eq_true (by kernel_rfl)) (by unfold Func.isWrapper; first | (rw [if_pos (by decide +kernel)]; kernel_rfl) | (rw [if_neg (by decide +kernel)]; exact ⟨rfl, rfl⟩))
    (fun os started H enc _ => viewNil_lifted os started H enc)
#print axioms viewNil_holds
end Go.Proofs.Ytdgfdkclaagdnaa
