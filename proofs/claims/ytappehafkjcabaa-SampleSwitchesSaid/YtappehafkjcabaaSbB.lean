/- The law SampleSwitches holds for every input; there is no condition. -/
import Derived.Test.YtappehafkjcabaaRows
import Derived.Test.YtappehafkjcabaaSbA
import Derived.Test.YtappehafkjcabaaAmX
import Derived.ProofKit
import Derived.OpenShut
import Derived.ShutString
import Derived.ChangeOld
import Derived.Below
set_option linter.unusedVariables false
namespace Go.Proofs.Ytappehafkjcabaa
open Go.ChangeShapes Go.WideShapes Go.ChangeAt Go.RowKit
open Go.Am

theorem own10 : ownKnob Try.prog.godebug = none := by kernel_rfl
theorem laidOut10 : laidOutB Try.prog = true := by kernel_rfl
theorem flat10_30 : flat2 Try.prog 6 30 = some [.i .i64, .i .i64, .i .i64, .i .i64, .i .i64, .i .i64] := by kernel_rfl
theorem flat10_38 : flat2 Try.prog 6 38 = some [.sl [.i .i64]] := by kernel_rfl

set_option maxRecDepth 100000 in
theorem lifted10 (os : Os) (started : os.Started) (H : Type) (enc : TypeId × Value → H) :
    ReturnsInHanded {} Try.checked os 10 .any (Rows.sampleSwitchesSpec.pre6 enc Try.prog Try.f10 Rows.sampleSwitchesRow.domain false) (Rows.sampleSwitchesSpec.post enc Try.prog Try.f10 false true false false) := by
  refine returnsInHanded_of_change (C := Try.checked) own10 started (by kernel_rfl) Try.func10
    (ChangeSpec.witness6 (enc := enc) (C := Try.checked) false ⟨#[], #[.agg #[.int .i64 0, .int .i64 0, .int .i64 0, .int .i64 0, .int .i64 0, .int .i64 0], .slice none 0 0], []⟩ 8 (by kernel_rfl) (by kernel_rfl) (by kernel_rfl) (by kernel_rfl)) ?_
  intro W base args ds gs before hval0 hW hcnd _
  have hval : ∀ (j : Nat) t v, Try.f10.params[j]? = some t → args[j]? = some v → Value.okWide Try.prog W .any base t v := hval0
  have hW' := hW
  obtain ⟨p, q, hA0, hV, rfl, hfz, hnd⟩ := hW
  have hA : DataW.TrodAll enc Try.prog W 0 (fun _ => true) true Try.f10.params.toList args.toList ds p := hA0
  rw [Try.params10] at hA hval
  obtain ⟨v0, vs0, d0, ds0, p0, q0, hargs, rfl, rfl, h0, r0⟩ := trodAll_cons hA
  obtain ⟨v1, vs1, d1, ds1, p1, q1, rfl, rfl, rfl, h1, r1⟩ := trodAll_cons r0
  obtain ⟨rfl, rfl, rfl⟩ := trodAll_nil r1
  obtain rfl : args = #[v0, v1] := by cases args; simp_all
  obtain ⟨rfl, rfl⟩ := trodVars_none hV
  have lt0 : ∀ x ∈ p0, x.block < W.heap.size := by obtain ⟨m, hm⟩ := h0; exact DataW.trod_lt m _ _ _ hm
  have k0 := h0
  have lt1 : ∀ x ∈ p1, x.block < W.heap.size := by obtain ⟨m, hm⟩ := h1; exact DataW.trod_lt m _ _ _ hm
  have k1 := h1
  obtain ⟨cs0, rfl, -⟩ := okWide_struct Try.underlying30 (hval 0 30 v0 rfl rfl)
  have ok0 := open2 (base := base) (r := .any) flat10_30 h0
  simp only [Value.cells, okVs, okV] at ok0
  obtain ⟨_, _, e0_0, ⟨x0_0, rfl, w0_0⟩, _, _, rfl, ⟨x0_1, rfl, w0_1⟩, _, _, rfl, ⟨x0_2, rfl, w0_2⟩, _, _, rfl, ⟨x0_3, rfl, w0_3⟩, _, _, rfl, ⟨x0_4, rfl, w0_4⟩, _, _, rfl, ⟨x0_5, rfl, w0_5⟩, rfl⟩ := ok0
  obtain rfl : cs0 = #[.int .i64 x0_0, .int .i64 x0_1, .int .i64 x0_2, .int .i64 x0_3, .int .i64 x0_4, .int .i64 x0_5] := by cases cs0; simp_all
  obtain ⟨a1, l1, c1, rfl⟩ := okWide_slice Try.underlying38 (hval 1 38 v1 rfl rfl)
  obtain ⟨t1, o1, n1, g1, ha1, hn1, he1⟩ := okV_sl (okVs1 (open2 (base := base) (r := .any) flat10_38 h1))
  clear hA0 hval0
  refine (law_whole (P := Try.prog) (f := 10) (W := W) (vs := #[.agg #[.int .i64 x0_0, .int .i64 x0_1, .int .i64 x0_2, .int .i64 x0_3, .int .i64 x0_4, .int .i64 x0_5], .slice a1 l1 c1]) (absArgs2 rfl (absA_slice ha1)) (f10 (hW W) x0_0 x0_1 x0_2 x0_3 x0_4 x0_5 (wf_i64 w0_0) (wf_i64 w0_1) (wf_i64 w0_2) (wf_i64 w0_3) (wf_i64 w0_4) (wf_i64 w0_5) t1 o1 n1 (fun i => selI ((g1 i).getD 0 default)) hn1 (fun i hi => by simpa using (he1.i 0 rfl i hi).1) (fun i hi => wf_i64 (he1.i 0 rfl i hi).2))).mono fun e W' ⟨he, bel⟩ => ?_
  subst he
  exact ⟨_, rfl, _, _, _, [], _, [], hW', trodAll_mk1 (shut_bool Try.underlying4 _), (trodAll_cons_mk (Below.trod laidOut10 (by kernel_rfl) (of_decide_eq_true (by kernel_rfl)) k0 bel lt0) (trodAll_cons_mk (Below.trod laidOut10 (by kernel_rfl) (of_decide_eq_true (by kernel_rfl)) k1 bel lt1) trodAll_mk0)), rfl, bel.frame _, fun h => by cases h⟩

theorem over10 : Rows.sampleSwitchesRow.holds Try.pinned (OpenSpec.ofChange Rows.sampleSwitchesSpec) :=
  OpenClaim.holds_of_wide 10 Try.f10 rfl rfl rfl rfl rfl rfl rfl ⟨rfl, rfl, rfl, rfl, rfl⟩ rfl rfl rfl rfl rfl (by kernel_rfl) Try.func10 (by kernel_rfl)
    (of_decide_eq_true (by kernel_rfl)) (by unfold Func.isWrapper; first | (rw [if_pos (by decide +kernel)]; kernel_rfl) | (rw [if_neg (by decide +kernel)]; exact ⟨rfl, rfl⟩))
    (fun os started H enc _ => lifted10 os started H enc)

theorem sampleSwitches_holds : Rows.SampleSwitchesSaid := over10
end Go.Proofs.Ytappehafkjcabaa
