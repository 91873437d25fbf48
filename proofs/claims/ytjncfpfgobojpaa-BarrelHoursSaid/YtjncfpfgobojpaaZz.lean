/- The law BarrelHours holds for every input; there is no condition. -/
import Derived.Test.YtjncfpfgobojpaaZf
import Derived.Test.YtjncfpfgobojpaaRows
import Derived.ProofKit
import Derived.OpenShut
import Derived.ShutString
import Derived.ChangeOld
set_option linter.unusedVariables false
namespace Go.Proofs.Ytjncfpfgobojpaa
open Go.ChangeShapes Go.WideShapes Go.ChangeAt Go.RowKit
open Go.Am
theorem own8 : ownKnob Try.prog.godebug = none := by kernel_rfl
theorem laidOut8 : laidOutB Try.prog = true := by kernel_rfl
theorem flat8_35 : flat2 Try.prog 6 35 = some [.i .i64, .i .i64, .i .i64, .i .i64, .i .i64, .i .i64, .i .i64] := by kernel_rfl
theorem flat8_44 : flat2 Try.prog 6 44 = some [.i .i64, .i .i64] := by kernel_rfl
set_option maxRecDepth 100000 in
theorem lifted8 (os : Os) (started : os.Started) (H : Type) (enc : TypeId × Value → H) :
    ReturnsInHanded {} Try.checked os 8 .any (Rows.barrelHoursSpec.pre6 enc Try.prog Try.f8 Rows.barrelHoursRow.domain false) (Rows.barrelHoursSpec.post enc Try.prog Try.f8 false true false false) := by
  refine returnsInHanded_of_change (C := Try.checked) own8 started (by kernel_rfl) Try.func8
    (ChangeSpec.witness6 (enc := enc) (C := Try.checked) false ⟨#[], #[.agg #[.int .i64 0, .int .i64 0, .int .i64 0, .int .i64 0, .int .i64 0, .int .i64 0, .int .i64 0], .agg #[.int .i64 0, .int .i64 0], .bool false], []⟩ 8 (by kernel_rfl) (by kernel_rfl) (by kernel_rfl) (by kernel_rfl)) ?_
  intro W base args ds gs before hval0 hW hcnd _
  have hval : ∀ (j : Nat) t v, Try.f8.params[j]? = some t → args[j]? = some v → Value.okWide Try.prog W .any base t v := hval0
  have hW' := hW
  obtain ⟨p, q, hA0, hV, rfl, hfz, hnd⟩ := hW
  have hA : DataW.TrodAll enc Try.prog W 0 (fun _ => true) true Try.f8.params.toList args.toList ds p := hA0
  rw [Try.params8] at hA hval
  obtain ⟨v0, vs0, d0, ds0, p0, q0, hargs, rfl, rfl, h0, z0⟩ := trodAll_cons hA
  obtain ⟨v1, vs1, d1, ds1, p1, q1, rfl, rfl, rfl, h1, z1⟩ := trodAll_cons z0
  obtain ⟨v2, vs2, d2, ds2, p2, q2, rfl, rfl, rfl, h2, z2⟩ := trodAll_cons z1
  obtain ⟨rfl, rfl, rfl⟩ := trodAll_nil z2
  obtain rfl : args = #[v0, v1, v2] := by cases args; simp_all
  obtain ⟨rfl, rfl⟩ := trodVars_none hV
  have lt0 : ∀ x ∈ p0, x.block < W.heap.size := by obtain ⟨m, hm⟩ := h0; exact DataW.trod_lt m _ _ _ hm
  have k0 := h0
  have lt1 : ∀ x ∈ p1, x.block < W.heap.size := by obtain ⟨m, hm⟩ := h1; exact DataW.trod_lt m _ _ _ hm
  have k1 := h1
  have lt2 : ∀ x ∈ p2, x.block < W.heap.size := by obtain ⟨m, hm⟩ := h2; exact DataW.trod_lt m _ _ _ hm
  have k2 := h2
  obtain ⟨cs0, rfl, -⟩ := okWide_struct Try.underlying35 (hval 0 35 v0 rfl rfl)
  obtain ⟨as0, s0_0, r0⟩ := argN flat8_35 h0
  obtain ⟨_, _, rfl, t0_0, s0_1⟩ := shps_cons s0_0
  obtain ⟨_, _, rfl, t0_1, s0_2⟩ := shps_cons s0_1
  obtain ⟨_, _, rfl, t0_2, s0_3⟩ := shps_cons s0_2
  obtain ⟨_, _, rfl, t0_3, s0_4⟩ := shps_cons s0_3
  obtain ⟨_, _, rfl, t0_4, s0_5⟩ := shps_cons s0_4
  obtain ⟨_, _, rfl, t0_5, s0_6⟩ := shps_cons s0_5
  obtain ⟨_, _, rfl, t0_6, s0_7⟩ := shps_cons s0_6
  obtain rfl := shps_nil s0_7
  obtain ⟨x0_0, rfl, w0_0⟩ := shp_i64 t0_0
  obtain ⟨x0_1, rfl, w0_1⟩ := shp_i64 t0_1
  obtain ⟨x0_2, rfl, w0_2⟩ := shp_i64 t0_2
  obtain ⟨x0_3, rfl, w0_3⟩ := shp_i64 t0_3
  obtain ⟨x0_4, rfl, w0_4⟩ := shp_i64 t0_4
  obtain ⟨x0_5, rfl, w0_5⟩ := shp_i64 t0_5
  obtain ⟨x0_6, rfl, w0_6⟩ := shp_i64 t0_6
  obtain ⟨cs1, rfl, -⟩ := okWide_array Try.underlying44 (hval 1 44 v1 rfl rfl)
  obtain ⟨as1, s1_0, r1⟩ := argN flat8_44 h1
  obtain ⟨_, _, rfl, t1_0, s1_1⟩ := shps_cons s1_0
  obtain ⟨_, _, rfl, t1_1, s1_2⟩ := shps_cons s1_1
  obtain rfl := shps_nil s1_2
  obtain ⟨x1_0, rfl, w1_0⟩ := shp_i64 t1_0
  obtain ⟨x1_1, rfl, w1_1⟩ := shp_i64 t1_1
  obtain ⟨x2, rfl, -, -⟩ := open_bool Try.underlying4 (hval 2 4 v2 rfl rfl) h2
  have r2 : VRel (ιφ W) (.b x2) (.bool x2) := by simp only [VRel]
  clear hA0 hval0
  have hv := (vrels_cons r0 (vrels_cons r1 (vrels_cons r2 vrels_nil)))
  refine (law_pc (P := Try.prog) (f := 8) (w := W) (vs := #[.agg cs0, .agg cs1, .bool x2]) (φW_ok W) hv (pc8 ⟨x0_0, x0_1, x0_2, x0_3, x0_4, x0_5, x0_6⟩ x1_0 x1_1 x2)).mono fun e W' ⟨he, bel⟩ => ?_
  subst he
  exact ⟨_, rfl, _, _, _, [], _, [], hW', trodAll_mk1 (shut_bool Try.underlying4 _), (trodAll_cons_mk (Below.trod laidOut8 (by kernel_rfl) (of_decide_eq_true (by kernel_rfl)) k0 bel lt0) (trodAll_cons_mk (Below.trod laidOut8 (by kernel_rfl) (of_decide_eq_true (by kernel_rfl)) k1 bel lt1) (trodAll_cons_mk (Below.trod laidOut8 (by kernel_rfl) (of_decide_eq_true (by kernel_rfl)) k2 bel lt2) trodAll_mk0))), rfl, bel.frame _, fun h => by cases h⟩
theorem over8 : Rows.barrelHoursRow.holds Try.pinned (OpenSpec.ofChange Rows.barrelHoursSpec) :=
  OpenClaim.holds_of_wide 8 Try.f8 rfl rfl rfl rfl rfl rfl rfl ⟨rfl, rfl, rfl, rfl, rfl⟩ rfl rfl rfl rfl rfl (by kernel_rfl) Try.func8 (by kernel_rfl)
    (of_decide_eq_true (by kernel_rfl)) (by unfold Func.isWrapper; first | (rw [if_pos (by decide +kernel)]; kernel_rfl) | (rw [if_neg (by decide +kernel)]; exact ⟨rfl, rfl⟩))
    (fun os started H enc _ => lifted8 os started H enc)
theorem barrelHours_holds : Rows.BarrelHoursSaid := over8
end Go.Proofs.Ytjncfpfgobojpaa
