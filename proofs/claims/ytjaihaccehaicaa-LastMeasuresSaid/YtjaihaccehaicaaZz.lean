/- The law LastMeasures holds for every input; there is no condition. -/
import Derived.Test.YtjaihaccehaicaaZe
import Derived.Test.YtjaihaccehaicaaRows
import Derived.ProofKit
import Derived.OpenShut
import Derived.ShutString
import Derived.ChangeOld
set_option linter.unusedVariables false
namespace Go.Proofs.Ytjaihaccehaicaa
open Go.ChangeShapes Go.WideShapes Go.ChangeAt Go.RowKit
open Go.Am
theorem own4 : ownKnob Try.prog.godebug = none := by kernel_rfl
theorem laidOut4 : laidOutB Try.prog = true := by kernel_rfl
theorem flat4_22 : flat2 Try.prog 6 22 = some [.sl [.i .i64]] := by kernel_rfl
set_option maxRecDepth 100000 in
theorem lifted4 (os : Os) (started : os.Started) (H : Type) (enc : TypeId × Value → H) :
    ReturnsInHanded {} Try.checked os 4 .any (Rows.lastMeasuresSpec.pre6 enc Try.prog Try.f4 Rows.lastMeasuresRow.domain false) (Rows.lastMeasuresSpec.post enc Try.prog Try.f4 false true false false) := by
  refine returnsInHanded_of_change (C := Try.checked) own4 started (by kernel_rfl) Try.func4
    (ChangeSpec.witness6 (enc := enc) (C := Try.checked) false ⟨#[], #[.slice none 0 0, .int .i64 0, .slice none 0 0], []⟩ 8 (by kernel_rfl) (by kernel_rfl) (by kernel_rfl) (by kernel_rfl)) ?_
  intro W base args ds gs before hval0 hW hcnd _
  have hval : ∀ (j : Nat) t v, Try.f4.params[j]? = some t → args[j]? = some v → Value.okWide Try.prog W .any base t v := hval0
  have hW' := hW
  obtain ⟨p, q, hA0, hV, rfl, hfz, hnd⟩ := hW
  have hA : DataW.TrodAll enc Try.prog W 0 (fun _ => true) true Try.f4.params.toList args.toList ds p := hA0
  rw [Try.params4] at hA hval
  obtain ⟨v0, vs0, d0, ds0, p0, q0, hargs, rfl, rfl, h0, z0⟩ := trodAll_cons hA
  obtain ⟨v1, vs1, d1, ds1, p1, q1, rfl, rfl, rfl, h1, z1⟩ := trodAll_cons z0
  obtain ⟨v2, vs2, d2, ds2, p2, q2, rfl, rfl, rfl, h2, z2⟩ := trodAll_cons z1
  obtain ⟨rfl, rfl, rfl⟩ := trodAll_nil z2
  obtain rfl : args = #[v0, v1, v2] := by cases args; simp_all
  obtain ⟨rfl, rfl⟩ := trodVars_none hV
  have lt0 : ∀ x ∈ p0, x.block < W.heap.size := by obtain ⟨m, hm⟩ := h0; exact DataW.trod_lt m _ _ _ hm
  have k0 := h0
  have lt1 : ∀ x ∈ p1, x.block < W.heap.size := by obtain ⟨m, hm⟩ := h1; exact DataW.trod_lt m _ _ _ hm
  have k1 := h1
  have lt2 : ∀ x ∈ p2, x.block < W.heap.size := by obtain ⟨m, hm⟩ := h2; exact DataW.trod_lt m _ _ _ hm
  have k2 := h2
  obtain ⟨a0, c0, d0_, rfl⟩ := okWide_slice Try.underlying22 (hval 0 22 v0 rfl rfl)
  obtain ⟨_, s0, r0⟩ := arg1 flat4_22 h0 rfl
  obtain ⟨l0, rfl, n0, m0⟩ := sl_dec (eI) (fun _ => True) (decI) s0
  obtain ⟨x1, rfl, -, -, w1⟩ := open_int Try.underlying3 (hval 1 3 v1 rfl rfl) h1
  have w1 := wf_i64 w1
  have r1 : VRel (ιφ W) (.i .i64 x1) (.int .i64 x1) := by simp only [VRel]
  obtain ⟨a2, c2, d2_, rfl⟩ := okWide_slice Try.underlying22 (hval 2 22 v2 rfl rfl)
  obtain ⟨_, s2, r2⟩ := arg1 flat4_22 h2 rfl
  obtain ⟨l2, rfl, n2, m2⟩ := sl_dec (eI) (fun _ => True) (decI) s2
  clear hA0 hval0
  have hv := (vrels_cons r0 (vrels_cons r1 (vrels_cons r2 vrels_nil)))
  refine (law_pc (P := Try.prog) (f := 4) (w := W) (vs := #[.slice a0 c0 d0_, .int .i64 x1, .slice a2 c2 d2_]) (φW_ok W) hv (pc4' l0 n0 x1 l2 n2)).mono fun e W' ⟨he, bel⟩ => ?_
  subst he
  exact ⟨_, rfl, _, _, _, [], _, [], hW', trodAll_mk1 (shut_bool Try.underlying4 _), (trodAll_cons_mk (Below.trod laidOut4 (by kernel_rfl) (of_decide_eq_true (by kernel_rfl)) k0 bel lt0) (trodAll_cons_mk (Below.trod laidOut4 (by kernel_rfl) (of_decide_eq_true (by kernel_rfl)) k1 bel lt1) (trodAll_cons_mk (Below.trod laidOut4 (by kernel_rfl) (of_decide_eq_true (by kernel_rfl)) k2 bel lt2) trodAll_mk0))), rfl, bel.frame _, fun h => by cases h⟩
theorem over4 : Rows.lastMeasuresRow.holds Try.pinned (OpenSpec.ofChange Rows.lastMeasuresSpec) :=
  OpenClaim.holds_of_wide 4 Try.f4 rfl rfl rfl rfl rfl rfl rfl ⟨rfl, rfl, rfl, rfl, rfl⟩ rfl rfl rfl rfl rfl (by kernel_rfl) Try.func4 (by kernel_rfl)
    (of_decide_eq_true (by kernel_rfl)) (by unfold Func.isWrapper; first | (rw [if_pos (by decide +kernel)]; kernel_rfl) | (rw [if_neg (by decide +kernel)]; exact ⟨rfl, rfl⟩))
    (fun os started H enc _ => lifted4 os started H enc)
theorem lastMeasures_holds : Rows.LastMeasuresSaid := over4
end Go.Proofs.Ytjaihaccehaicaa
