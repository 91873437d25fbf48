/- The law SampleCounts holds for every input; there is no condition. -/
import Derived.Test.YtappehafkjcabaaRows
import Derived.Test.YtappehafkjcabaaSaL
import Derived.Test.YtappehafkjcabaaAmX
import Derived.ProofKit
import Derived.OpenShut
import Derived.ShutString
import Derived.ChangeOld
import Derived.Below
set_option linter.unusedVariables false
namespace Go.Proofs.Ytappehafkjcabaa
open Go.ChangeShapes Go.WideShapes Go.ChangeAt Go.RowKit
open Go.Am

theorem own7 : ownKnob Try.prog.godebug = none := by kernel_rfl
theorem laidOut7 : laidOutB Try.prog = true := by kernel_rfl
theorem flat7_44 : flat2 Try.prog 6 44 = some [.sl [.b]] := by kernel_rfl
theorem flat7_38 : flat2 Try.prog 6 38 = some [.sl [.i .i64]] := by kernel_rfl

set_option maxRecDepth 100000 in
theorem lifted7 (os : Os) (started : os.Started) (H : Type) (enc : TypeId × Value → H) :
    ReturnsInHanded {} Try.checked os 7 .any (Rows.sampleCountsSpec.pre6 enc Try.prog Try.f7 Rows.sampleCountsRow.domain false) (Rows.sampleCountsSpec.post enc Try.prog Try.f7 false true false false) := by
  refine returnsInHanded_of_change (C := Try.checked) own7 started (by kernel_rfl) Try.func7
    (ChangeSpec.witness6 (enc := enc) (C := Try.checked) false ⟨#[], #[.slice none 0 0, .slice none 0 0], []⟩ 8 (by kernel_rfl) (by kernel_rfl) (by kernel_rfl) (by kernel_rfl)) ?_
  intro W base args ds gs before hval0 hW hcnd _
  have hval : ∀ (j : Nat) t v, Try.f7.params[j]? = some t → args[j]? = some v → Value.okWide Try.prog W .any base t v := hval0
  have hW' := hW
  obtain ⟨p, q, hA0, hV, rfl, hfz, hnd⟩ := hW
  have hA : DataW.TrodAll enc Try.prog W 0 (fun _ => true) true Try.f7.params.toList args.toList ds p := hA0
  rw [Try.params7] at hA hval
  obtain ⟨v0, vs0, d0, ds0, p0, q0, hargs, rfl, rfl, h0, r0⟩ := trodAll_cons hA
  obtain ⟨v1, vs1, d1, ds1, p1, q1, rfl, rfl, rfl, h1, r1⟩ := trodAll_cons r0
  obtain ⟨rfl, rfl, rfl⟩ := trodAll_nil r1
  obtain rfl : args = #[v0, v1] := by cases args; simp_all
  obtain ⟨rfl, rfl⟩ := trodVars_none hV
  have lt0 : ∀ x ∈ p0, x.block < W.heap.size := by obtain ⟨m, hm⟩ := h0; exact DataW.trod_lt m _ _ _ hm
  have k0 := h0
  have lt1 : ∀ x ∈ p1, x.block < W.heap.size := by obtain ⟨m, hm⟩ := h1; exact DataW.trod_lt m _ _ _ hm
  have k1 := h1
  obtain ⟨a0, l0, c0, rfl⟩ := okWide_slice Try.underlying44 (hval 0 44 v0 rfl rfl)
  obtain ⟨t0, o0, n0, g0, ha0, hn0, he0⟩ := okV_sl (okVs1 (open2 (base := base) (r := .any) flat7_44 h0))
  obtain ⟨a1, l1, c1, rfl⟩ := okWide_slice Try.underlying38 (hval 1 38 v1 rfl rfl)
  obtain ⟨t1, o1, n1, g1, ha1, hn1, he1⟩ := okV_sl (okVs1 (open2 (base := base) (r := .any) flat7_38 h1))
  clear hA0 hval0
  refine (law_whole (P := Try.prog) (f := 7) (W := W) (vs := #[.slice a0 l0 c0, .slice a1 l1 c1]) (absArgs2 (absA_slice ha0) (absA_slice ha1)) (f7 (hW W) t0 o0 n0 (fun i => selB ((g0 i).getD 0 default)) hn0 (fun i hi => by simpa using he0.b 0 rfl i hi) t1 o1 n1 (fun i => selI ((g1 i).getD 0 default)) hn1 (fun i hi => by simpa using (he1.i 0 rfl i hi).1) (fun i hi => wf_i64 (he1.i 0 rfl i hi).2))).mono fun e W' ⟨he, bel⟩ => ?_
  subst he
  exact ⟨_, rfl, _, _, _, [], _, [], hW', trodAll_mk1 (shut_bool Try.underlying4 _), (trodAll_cons_mk (Below.trod laidOut7 (by kernel_rfl) (of_decide_eq_true (by kernel_rfl)) k0 bel lt0) (trodAll_cons_mk (Below.trod laidOut7 (by kernel_rfl) (of_decide_eq_true (by kernel_rfl)) k1 bel lt1) trodAll_mk0)), rfl, bel.frame _, fun h => by cases h⟩

theorem over7 : Rows.sampleCountsRow.holds Try.pinned (OpenSpec.ofChange Rows.sampleCountsSpec) :=
  OpenClaim.holds_of_wide 7 Try.f7 rfl rfl rfl rfl rfl rfl rfl ⟨rfl, rfl, rfl, rfl, rfl⟩ rfl rfl rfl rfl rfl (by kernel_rfl) Try.func7 (by kernel_rfl)
    (of_decide_eq_true (by kernel_rfl)) (by unfold Func.isWrapper; first | (rw [if_pos (by decide +kernel)]; kernel_rfl) | (rw [if_neg (by decide +kernel)]; exact ⟨rfl, rfl⟩))
    (fun os started H enc _ => lifted7 os started H enc)

theorem sampleCounts_holds : Rows.SampleCountsSaid := over7
end Go.Proofs.Ytappehafkjcabaa
