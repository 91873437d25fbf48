/- The law TempleLives holds for every input; there is no condition. -/
import Derived.Test.YtbhkbaapfioijaaRows
import Derived.Test.YtbhkbaapfioijaaTmK
import Derived.Test.YtbhkbaapfioijaaAmY
import Derived.ProofKit
import Derived.OpenShut
import Derived.ShutString
import Derived.ChangeOld
import Derived.Below
set_option linter.unusedVariables false
namespace Go.Proofs.Ytbhkbaapfioijaa
open Go.ChangeShapes Go.WideShapes Go.ChangeAt Go.RowKit
open Go.Am

theorem own10 : ownKnob Try.prog.godebug = none := by kernel_rfl
theorem laidOut10 : laidOutB Try.prog = true := by kernel_rfl
theorem flat10_59 : flat2 Try.prog 6 59 = some [.i .i64, .i .i64, .i .i64, .i .i64, .i .i64, .i .i64, .i .i64] := by kernel_rfl

set_option maxRecDepth 100000 in
theorem lifted10 (os : Os) (started : os.Started) (H : Type) (enc : TypeId × Value → H) :
    ReturnsInHanded {} Try.checked os 10 .any (Rows.templeLivesSpec.pre6 enc Try.prog Try.f10 Rows.templeLivesRow.domain false) (Rows.templeLivesSpec.post enc Try.prog Try.f10 false true false false) := by
  refine returnsInHanded_of_change (C := Try.checked) own10 started (by kernel_rfl) Try.func10
    (ChangeSpec.witness6 (enc := enc) (C := Try.checked) false ⟨#[], #[.agg #[.int .i64 0, .int .i64 0, .int .i64 0, .int .i64 0, .int .i64 0, .int .i64 0, .int .i64 0]], []⟩ 8 (by kernel_rfl) (by kernel_rfl) (by kernel_rfl) (by kernel_rfl)) ?_
  intro W base args ds gs before hval0 hW hcnd _
  have hval : ∀ (j : Nat) t v, Try.f10.params[j]? = some t → args[j]? = some v → Value.okWide Try.prog W .any base t v := hval0
  have hW' := hW
  obtain ⟨p, q, hA0, hV, rfl, hfz, hnd⟩ := hW
  have hA : DataW.TrodAll enc Try.prog W 0 (fun _ => true) true Try.f10.params.toList args.toList ds p := hA0
  rw [Try.params10] at hA hval
  obtain ⟨v0, vs0, d0, ds0, p0, q0, hargs, rfl, rfl, h0, z0⟩ := trodAll_cons hA
  obtain ⟨rfl, rfl, rfl⟩ := trodAll_nil z0
  obtain rfl : args = #[v0] := by cases args; simp_all
  obtain ⟨rfl, rfl⟩ := trodVars_none hV
  have lt0 : ∀ x ∈ p0, x.block < W.heap.size := by obtain ⟨m, hm⟩ := h0; exact DataW.trod_lt m _ _ _ hm
  have k0 := h0
  obtain ⟨cs0, rfl, -⟩ := okWide_struct Try.underlying59 (hval 0 59 v0 rfl rfl)
  obtain ⟨as0, s0_0, r0⟩ := argN flat10_59 h0
  obtain ⟨_, _, rfl, t0_0, s0_1⟩ := shps_cons s0_0
  obtain ⟨_, _, rfl, t0_1, s0_2⟩ := shps_cons s0_1
  obtain ⟨_, _, rfl, t0_2, s0_3⟩ := shps_cons s0_2
  obtain ⟨_, _, rfl, t0_3, s0_4⟩ := shps_cons s0_3
  obtain ⟨_, _, rfl, t0_4, s0_5⟩ := shps_cons s0_4
  obtain ⟨_, _, rfl, t0_5, s0_6⟩ := shps_cons s0_5
  obtain ⟨_, _, rfl, t0_6, s0_7⟩ := shps_cons s0_6
  obtain rfl := shps_nil s0_7
  obtain ⟨x0_0, rfl, w0_0⟩ := shp_i64 t0_0
  obtain ⟨x0_1, rfl, w0_1⟩ := shp_i64 t0_1
  obtain ⟨x0_2, rfl, w0_2⟩ := shp_i64 t0_2
  obtain ⟨x0_3, rfl, w0_3⟩ := shp_i64 t0_3
  obtain ⟨x0_4, rfl, w0_4⟩ := shp_i64 t0_4
  obtain ⟨x0_5, rfl, w0_5⟩ := shp_i64 t0_5
  obtain ⟨x0_6, rfl, w0_6⟩ := shp_i64 t0_6
  clear hA0 hval0
  have hv := (vrels_cons r0 vrels_nil)
  refine (law_pc (P := Try.prog) (f := 10) (w := W) (vs := #[.agg cs0]) (φW_ok W) hv (pc10 ⟨x0_0, x0_1, x0_2, x0_3⟩ x0_4 x0_5 x0_6)).mono fun e W' ⟨he, bel⟩ => ?_
  subst he
  exact ⟨_, rfl, _, _, _, [], _, [], hW', trodAll_mk1 (shut_bool Try.underlying4 _), (trodAll_cons_mk (Below.trod laidOut10 (by kernel_rfl) (of_decide_eq_true (by kernel_rfl)) k0 bel lt0) trodAll_mk0), rfl, bel.frame _, fun h => by cases h⟩

theorem over10 : Rows.templeLivesRow.holds Try.pinned (OpenSpec.ofChange Rows.templeLivesSpec) :=
  OpenClaim.holds_of_wide 10 Try.f10 rfl rfl rfl rfl rfl rfl rfl ⟨rfl, rfl, rfl, rfl, rfl⟩ rfl rfl rfl rfl rfl (by kernel_rfl) Try.func10 (by kernel_rfl)
    (of_decide_eq_true (by kernel_rfl)) (by unfold Func.isWrapper; first | (rw [if_pos (by decide +kernel)]; kernel_rfl) | (rw [if_neg (by decide +kernel)]; exact ⟨rfl, rfl⟩))
    (fun os started H enc _ => lifted10 os started H enc)

theorem templeLives_holds : Rows.TempleLivesSaid := over10
end Go.Proofs.Ytbhkbaapfioijaa
