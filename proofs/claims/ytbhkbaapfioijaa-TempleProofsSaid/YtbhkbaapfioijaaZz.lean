/- The law TempleProofs holds for every input; there is no condition. -/
import Derived.Test.YtbhkbaapfioijaaZg
import Derived.Test.YtbhkbaapfioijaaRows
import Derived.ProofKit
import Derived.OpenShut
import Derived.ShutString
import Derived.ChangeOld
set_option linter.unusedVariables false
namespace Go.Proofs.Ytbhkbaapfioijaa
open Go.ChangeShapes Go.WideShapes Go.ChangeAt Go.RowKit
open Go.Am
theorem own13 : ownKnob Try.prog.godebug = none := by kernel_rfl
theorem laidOut13 : laidOutB Try.prog = true := by kernel_rfl
theorem flat13_22 : flat2 Try.prog 6 22 = some [.sl [.i .i64, .i .i64, .i .i64, .i .i64]] := by kernel_rfl
theorem flat13_66 : flat2 Try.prog 6 66 = some [.sl [.i .i64, .i .i64], .sl [.i .i64]] := by kernel_rfl
set_option maxRecDepth 100000 in
theorem lifted13 (os : Os) (started : os.Started) (H : Type) (enc : TypeId × Value → H) :
    ReturnsInHanded {} Try.checked os 13 .any (Rows.templeProofsSpec.pre6 enc Try.prog Try.f13 Rows.templeProofsRow.domain false) (Rows.templeProofsSpec.post enc Try.prog Try.f13 false true false false) := by
  refine returnsInHanded_of_change (C := Try.checked) own13 started (by kernel_rfl) Try.func13
    (ChangeSpec.witness6 (enc := enc) (C := Try.checked) false ⟨#[], #[.slice none 0 0, .int .i64 0, .agg #[.slice none 0 0, .slice none 0 0]], []⟩ 8 (by kernel_rfl) (by kernel_rfl) (by kernel_rfl) (by kernel_rfl)) ?_
  intro W base args ds gs before hval0 hW hcnd _
  have hval : ∀ (j : Nat) t v, Try.f13.params[j]? = some t → args[j]? = some v → Value.okWide Try.prog W .any base t v := hval0
  have hW' := hW
  obtain ⟨p, q, hA0, hV, rfl, hfz, hnd⟩ := hW
  have hA : DataW.TrodAll enc Try.prog W 0 (fun _ => true) true Try.f13.params.toList args.toList ds p := hA0
  rw [Try.params13] at hA hval
  obtain ⟨v0, vs0, d0, ds0, p0, q0, hargs, rfl, rfl, h0, z0⟩ := trodAll_cons hA
  obtain ⟨v1, vs1, d1, ds1, p1, q1, rfl, rfl, rfl, h1, z1⟩ := trodAll_cons z0
  obtain ⟨v2, vs2, d2, ds2, p2, q2, rfl, rfl, rfl, h2, z2⟩ := trodAll_cons z1
  obtain ⟨rfl, rfl, rfl⟩ := trodAll_nil z2
  obtain rfl : args = #[v0, v1, v2] := by cases args; simp_all
  obtain ⟨rfl, rfl⟩ := trodVars_none hV
  have lt0 : ∀ x ∈ p0, x.block < W.heap.size := by obtain ⟨m, hm⟩ := h0; exact DataW.trod_lt m _ _ _ hm
  have k0 := h0
  have lt1 : ∀ x ∈ p1, x.block < W.heap.size := by obtain ⟨m, hm⟩ := h1; exact DataW.trod_lt m _ _ _ hm
  have k1 := h1
  have lt2 : ∀ x ∈ p2, x.block < W.heap.size := by obtain ⟨m, hm⟩ := h2; exact DataW.trod_lt m _ _ _ hm
  have k2 := h2
  obtain ⟨a0, c0, d0_, rfl⟩ := okWide_slice Try.underlying22 (hval 0 22 v0 rfl rfl)
  obtain ⟨_, s0, r0⟩ := arg1 flat13_22 h0 rfl
  obtain ⟨l0, rfl, n0, m0⟩ := sl_dec (eT) (fun _ => True) (decT) s0
  obtain ⟨x1, rfl, -, -, w1⟩ := open_int Try.underlying3 (hval 1 3 v1 rfl rfl) h1
  have w1 := wf_i64 w1
  have r1 : VRel (ιφ W) (.i .i64 x1) (.int .i64 x1) := by simp only [VRel]
  obtain ⟨cs2, rfl, -⟩ := okWide_struct Try.underlying66 (hval 2 66 v2 rfl rfl)
  obtain ⟨as2, s2_0, r2⟩ := argN flat13_66 h2
  obtain ⟨_, _, rfl, t2_0, s2_1⟩ := shps_cons s2_0
  obtain ⟨_, _, rfl, t2_1, s2_2⟩ := shps_cons s2_1
  obtain rfl := shps_nil s2_2
  obtain ⟨l2_0, rfl, n2_0, m2_0⟩ := sl_dec (eQ) (fun _ => True) (decQ) t2_0
  obtain ⟨l2_1, rfl, n2_1, m2_1⟩ := sl_dec (eI) (fun _ => True) (decI) t2_1
  clear hA0 hval0
  have hv := (vrels_cons r0 (vrels_cons r1 (vrels_cons r2 vrels_nil)))
  refine (law_pc (P := Try.prog) (f := 13) (w := W) (vs := #[.slice a0 c0 d0_, .int .i64 x1, .agg cs2]) (φW_ok W) hv (pc13' l0 n0 x1 l2_0 n2_0 l2_1 n2_1)).mono fun e W' ⟨he, bel⟩ => ?_
  subst he
  exact ⟨_, rfl, _, _, _, [], _, [], hW', trodAll_mk1 (shut_bool Try.underlying4 _), (trodAll_cons_mk (Below.trod laidOut13 (by kernel_rfl) (of_decide_eq_true (by kernel_rfl)) k0 bel lt0) (trodAll_cons_mk (Below.trod laidOut13 (by kernel_rfl) (of_decide_eq_true (by kernel_rfl)) k1 bel lt1) (trodAll_cons_mk (Below.trod laidOut13 (by kernel_rfl) (of_decide_eq_true (by kernel_rfl)) k2 bel lt2) trodAll_mk0))), rfl, bel.frame _, fun h => by cases h⟩
theorem over13 : Rows.templeProofsRow.holds Try.pinned (OpenSpec.ofChange Rows.templeProofsSpec) :=
  OpenClaim.holds_of_wide 13 Try.f13 rfl rfl rfl rfl rfl rfl rfl ⟨rfl, rfl, rfl, rfl, rfl⟩ rfl rfl rfl rfl rfl (by kernel_rfl) Try.func13 (by kernel_rfl)
    (of_decide_eq_true (by kernel_rfl)) (by unfold Func.isWrapper; first | (rw [if_pos (by decide +kernel)]; kernel_rfl) | (rw [if_neg (by decide +kernel)]; exact ⟨rfl, rfl⟩))
    (fun os started H enc _ => lifted13 os started H enc)
theorem templeProofs_holds : Rows.TempleProofsSaid := over13
end Go.Proofs.Ytbhkbaapfioijaa
