/- The law LastSteps holds for every input; there is no condition. -/
import Derived.Test.YtjaihaccehaicaaZf
import Derived.Test.YtjaihaccehaicaaRows
import Derived.ProofKit
import Derived.OpenShut
import Derived.ShutString
import Derived.ChangeOld
set_option linter.unusedVariables false
namespace Go.Proofs.Ytjaihaccehaicaa
open Go.ChangeShapes Go.WideShapes Go.ChangeAt Go.RowKit
open Go.Am
theorem own8 : ownKnob Try.prog.godebug = none := by kernel_rfl
theorem laidOut8 : laidOutB Try.prog = true := by kernel_rfl
theorem flat8_34 : flat2 Try.prog 6 34 = some [.i .i64, .i .i64, .i .i64, .i .i64, .i .i64, .i .i64, .i .i64, .i .i64, .i .i64, .i .i64, .i .i64, .i .i64, .i .i64, .i .i64, .i .i64, .i .i64, .i .i64] := by kernel_rfl
theorem flat8_39 : flat2 Try.prog 6 39 = some [.i .i64, .i .i64, .i .i64, .i .i64, .i .i64, .i .i64] := by kernel_rfl
theorem flat8_32 : flat2 Try.prog 6 32 = some [.i .i64, .i .i64, .i .i64, .i .i64, .i .i64] := by kernel_rfl
set_option maxRecDepth 100000 in
theorem lifted8 (os : Os) (started : os.Started) (H : Type) (enc : TypeId × Value → H) :
    ReturnsInHanded {} Try.checked os 8 .any (Rows.lastStepsSpec.pre6 enc Try.prog Try.f8 Rows.lastStepsRow.domain false) (Rows.lastStepsSpec.post enc Try.prog Try.f8 false true false false) := by
  refine returnsInHanded_of_change (C := Try.checked) own8 started (by kernel_rfl) Try.func8
    (ChangeSpec.witness6 (enc := enc) (C := Try.checked) false ⟨#[], #[.agg #[.int .i64 0, .int .i64 0, .int .i64 0, .int .i64 0, .int .i64 0, .int .i64 0, .int .i64 0, .int .i64 0, .int .i64 0, .int .i64 0, .int .i64 0, .int .i64 0, .int .i64 0, .int .i64 0, .int .i64 0, .int .i64 0, .int .i64 0], .agg #[.int .i64 0, .int .i64 0, .int .i64 0, .int .i64 0, .int .i64 0, .int .i64 0], .agg #[.int .i64 0, .int .i64 0, .int .i64 0, .int .i64 0, .int .i64 0], .int .i64 0, .int .i64 0], []⟩ 8 (by kernel_rfl) (by kernel_rfl) (by kernel_rfl) (by kernel_rfl)) ?_
  intro W base args ds gs before hval0 hW hcnd _
  have hval : ∀ (j : Nat) t v, Try.f8.params[j]? = some t → args[j]? = some v → Value.okWide Try.prog W .any base t v := hval0
  have hW' := hW
  obtain ⟨p, q, hA0, hV, rfl, hfz, hnd⟩ := hW
  have hA : DataW.TrodAll enc Try.prog W 0 (fun _ => true) true Try.f8.params.toList args.toList ds p := hA0
  rw [Try.params8] at hA hval
  obtain ⟨v0, vs0, d0, ds0, p0, q0, hargs, rfl, rfl, h0, z0⟩ := trodAll_cons hA
  obtain ⟨v1, vs1, d1, ds1, p1, q1, rfl, rfl, rfl, h1, z1⟩ := trodAll_cons z0
  obtain ⟨v2, vs2, d2, ds2, p2, q2, rfl, rfl, rfl, h2, z2⟩ := trodAll_cons z1
  obtain ⟨v3, vs3, d3, ds3, p3, q3, rfl, rfl, rfl, h3, z3⟩ := trodAll_cons z2
  obtain ⟨v4, vs4, d4, ds4, p4, q4, rfl, rfl, rfl, h4, z4⟩ := trodAll_cons z3
  obtain ⟨rfl, rfl, rfl⟩ := trodAll_nil z4
  obtain rfl : args = #[v0, v1, v2, v3, v4] := by cases args; simp_all
  obtain ⟨rfl, rfl⟩ := trodVars_none hV
  have lt0 : ∀ x ∈ p0, x.block < W.heap.size := by obtain ⟨m, hm⟩ := h0; exact DataW.trod_lt m _ _ _ hm
  have k0 := h0
  have lt1 : ∀ x ∈ p1, x.block < W.heap.size := by obtain ⟨m, hm⟩ := h1; exact DataW.trod_lt m _ _ _ hm
  have k1 := h1
  have lt2 : ∀ x ∈ p2, x.block < W.heap.size := by obtain ⟨m, hm⟩ := h2; exact DataW.trod_lt m _ _ _ hm
  have k2 := h2
  have lt3 : ∀ x ∈ p3, x.block < W.heap.size := by obtain ⟨m, hm⟩ := h3; exact DataW.trod_lt m _ _ _ hm
  have k3 := h3
  have lt4 : ∀ x ∈ p4, x.block < W.heap.size := by obtain ⟨m, hm⟩ := h4; exact DataW.trod_lt m _ _ _ hm
  have k4 := h4
  obtain ⟨cs0, rfl, -⟩ := okWide_struct Try.underlying34 (hval 0 34 v0 rfl rfl)
  obtain ⟨as0, s0_0, r0⟩ := argN flat8_34 h0
  obtain ⟨_, _, rfl, t0_0, s0_1⟩ := shps_cons s0_0
  obtain ⟨_, _, rfl, t0_1, s0_2⟩ := shps_cons s0_1
  obtain ⟨_, _, rfl, t0_2, s0_3⟩ := shps_cons s0_2
  obtain ⟨_, _, rfl, t0_3, s0_4⟩ := shps_cons s0_3
  obtain ⟨_, _, rfl, t0_4, s0_5⟩ := shps_cons s0_4
  obtain ⟨_, _, rfl, t0_5, s0_6⟩ := shps_cons s0_5
  obtain ⟨_, _, rfl, t0_6, s0_7⟩ := shps_cons s0_6
  obtain ⟨_, _, rfl, t0_7, s0_8⟩ := shps_cons s0_7
  obtain ⟨_, _, rfl, t0_8, s0_9⟩ := shps_cons s0_8
  obtain ⟨_, _, rfl, t0_9, s0_10⟩ := shps_cons s0_9
  obtain ⟨_, _, rfl, t0_10, s0_11⟩ := shps_cons s0_10
  obtain ⟨_, _, rfl, t0_11, s0_12⟩ := shps_cons s0_11
  obtain ⟨_, _, rfl, t0_12, s0_13⟩ := shps_cons s0_12
  obtain ⟨_, _, rfl, t0_13, s0_14⟩ := shps_cons s0_13
  obtain ⟨_, _, rfl, t0_14, s0_15⟩ := shps_cons s0_14
  obtain ⟨_, _, rfl, t0_15, s0_16⟩ := shps_cons s0_15
  obtain ⟨_, _, rfl, t0_16, s0_17⟩ := shps_cons s0_16
  obtain rfl := shps_nil s0_17
  obtain ⟨x0_0, rfl, w0_0⟩ := shp_i64 t0_0
  obtain ⟨x0_1, rfl, w0_1⟩ := shp_i64 t0_1
  obtain ⟨x0_2, rfl, w0_2⟩ := shp_i64 t0_2
  obtain ⟨x0_3, rfl, w0_3⟩ := shp_i64 t0_3
  obtain ⟨x0_4, rfl, w0_4⟩ := shp_i64 t0_4
  obtain ⟨x0_5, rfl, w0_5⟩ := shp_i64 t0_5
  obtain ⟨x0_6, rfl, w0_6⟩ := shp_i64 t0_6
  obtain ⟨x0_7, rfl, w0_7⟩ := shp_i64 t0_7
  obtain ⟨x0_8, rfl, w0_8⟩ := shp_i64 t0_8
  obtain ⟨x0_9, rfl, w0_9⟩ := shp_i64 t0_9
  obtain ⟨x0_10, rfl, w0_10⟩ := shp_i64 t0_10
  obtain ⟨x0_11, rfl, w0_11⟩ := shp_i64 t0_11
  obtain ⟨x0_12, rfl, w0_12⟩ := shp_i64 t0_12
  obtain ⟨x0_13, rfl, w0_13⟩ := shp_i64 t0_13
  obtain ⟨x0_14, rfl, w0_14⟩ := shp_i64 t0_14
  obtain ⟨x0_15, rfl, w0_15⟩ := shp_i64 t0_15
  obtain ⟨x0_16, rfl, w0_16⟩ := shp_i64 t0_16
  obtain ⟨cs1, rfl, -⟩ := okWide_struct Try.underlying39 (hval 1 39 v1 rfl rfl)
  obtain ⟨as1, s1_0, r1⟩ := argN flat8_39 h1
  obtain ⟨_, _, rfl, t1_0, s1_1⟩ := shps_cons s1_0
  obtain ⟨_, _, rfl, t1_1, s1_2⟩ := shps_cons s1_1
  obtain ⟨_, _, rfl, t1_2, s1_3⟩ := shps_cons s1_2
  obtain ⟨_, _, rfl, t1_3, s1_4⟩ := shps_cons s1_3
  obtain ⟨_, _, rfl, t1_4, s1_5⟩ := shps_cons s1_4
  obtain ⟨_, _, rfl, t1_5, s1_6⟩ := shps_cons s1_5
  obtain rfl := shps_nil s1_6
  obtain ⟨x1_0, rfl, w1_0⟩ := shp_i64 t1_0
  obtain ⟨x1_1, rfl, w1_1⟩ := shp_i64 t1_1
  obtain ⟨x1_2, rfl, w1_2⟩ := shp_i64 t1_2
  obtain ⟨x1_3, rfl, w1_3⟩ := shp_i64 t1_3
  obtain ⟨x1_4, rfl, w1_4⟩ := shp_i64 t1_4
  obtain ⟨x1_5, rfl, w1_5⟩ := shp_i64 t1_5
  obtain ⟨cs2, rfl, -⟩ := okWide_array Try.underlying32 (hval 2 32 v2 rfl rfl)
  obtain ⟨as2, s2_0, r2⟩ := argN flat8_32 h2
  obtain ⟨_, _, rfl, t2_0, s2_1⟩ := shps_cons s2_0
  obtain ⟨_, _, rfl, t2_1, s2_2⟩ := shps_cons s2_1
  obtain ⟨_, _, rfl, t2_2, s2_3⟩ := shps_cons s2_2
  obtain ⟨_, _, rfl, t2_3, s2_4⟩ := shps_cons s2_3
  obtain ⟨_, _, rfl, t2_4, s2_5⟩ := shps_cons s2_4
  obtain rfl := shps_nil s2_5
  obtain ⟨x2_0, rfl, w2_0⟩ := shp_i64 t2_0
  obtain ⟨x2_1, rfl, w2_1⟩ := shp_i64 t2_1
  obtain ⟨x2_2, rfl, w2_2⟩ := shp_i64 t2_2
  obtain ⟨x2_3, rfl, w2_3⟩ := shp_i64 t2_3
  obtain ⟨x2_4, rfl, w2_4⟩ := shp_i64 t2_4
  obtain ⟨x3, rfl, -, -, w3⟩ := open_int Try.underlying3 (hval 3 3 v3 rfl rfl) h3
  have w3 := wf_i64 w3
  have r3 : VRel (ιφ W) (.i .i64 x3) (.int .i64 x3) := by simp only [VRel]
  obtain ⟨x4, rfl, -, -, w4⟩ := open_int Try.underlying3 (hval 4 3 v4 rfl rfl) h4
  have w4 := wf_i64 w4
  have r4 : VRel (ιφ W) (.i .i64 x4) (.int .i64 x4) := by simp only [VRel]
  clear hA0 hval0
  have hv := (vrels_cons r0 (vrels_cons r1 (vrels_cons r2 (vrels_cons r3 (vrels_cons r4 vrels_nil)))))
  refine (law_pc (P := Try.prog) (f := 8) (w := W) (vs := #[.agg cs0, .agg cs1, .agg cs2, .int .i64 x3, .int .i64 x4]) (φW_ok W) hv (pc8 ⟨x0_0, (fun i => [x0_1, x0_2, x0_3, x0_4, x0_5].getD i 0), (fun i => [x0_6, x0_7, x0_8, x0_9, x0_10].getD i 0), (fun i => [x0_11, x0_12, x0_13, x0_14, x0_15].getD i 0), x0_16⟩ ⟨x1_0, (fun i => [x1_1, x1_2, x1_3, x1_4, x1_5].getD i 0)⟩ (fun i => [x2_0, x2_1, x2_2, x2_3, x2_4].getD i 0) x3 x4 w4)).mono fun e W' ⟨he, bel⟩ => ?_
  subst he
  exact ⟨_, rfl, _, _, _, [], _, [], hW', trodAll_mk1 (shut_bool Try.underlying4 _), (trodAll_cons_mk (Below.trod laidOut8 (by kernel_rfl) (of_decide_eq_true (by kernel_rfl)) k0 bel lt0) (trodAll_cons_mk (Below.trod laidOut8 (by kernel_rfl) (of_decide_eq_true (by kernel_rfl)) k1 bel lt1) (trodAll_cons_mk (Below.trod laidOut8 (by kernel_rfl) (of_decide_eq_true (by kernel_rfl)) k2 bel lt2) (trodAll_cons_mk (Below.trod laidOut8 (by kernel_rfl) (of_decide_eq_true (by kernel_rfl)) k3 bel lt3) (trodAll_cons_mk (Below.trod laidOut8 (by kernel_rfl) (of_decide_eq_true (by kernel_rfl)) k4 bel lt4) trodAll_mk0))))), rfl, bel.frame _, fun h => by cases h⟩
theorem over8 : Rows.lastStepsRow.holds Try.pinned (OpenSpec.ofChange Rows.lastStepsSpec) :=
  OpenClaim.holds_of_wide 8 Try.f8 rfl rfl rfl rfl rfl rfl rfl ⟨rfl, rfl, rfl, rfl, rfl⟩ rfl rfl rfl rfl rfl (by kernel_rfl) Try.func8 (by kernel_rfl)
    (of_decide_eq_true (by kernel_rfl)) (by unfold Func.isWrapper; first | (rw [if_pos (by decide +kernel)]; kernel_rfl) | (rw [if_neg (by decide +kernel)]; exact ⟨rfl, rfl⟩))
    (fun os started H enc _ => lifted8 os started H enc)
theorem lastSteps_holds : Rows.LastStepsSaid := over8
end Go.Proofs.Ytjaihaccehaicaa
