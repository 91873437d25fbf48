/- The law TopSizes holds for every input; there is no condition. -/
import Derived.Test.YtjaihaccehaicaaDoorZi
import Derived.Test.YtjaihaccehaicaaDoorCards
import Derived.OpenShut
import Derived.ShutString
import Derived.ChangeOld
import Derived.SevenTiedAt
set_option linter.unusedVariables false
namespace Go.Proofs.YtjaihaccehaicaaDoor
open Go.ChangeShapes Go.WideShapes Go.ChangeAt Go.RowKit
open Go.Am
theorem own7 : ownKnob Tryd.prog.godebug = none := by kernel_rfl
theorem laidOut7 : laidOutB Tryd.prog = true := by kernel_rfl
theorem flat7_22 : flat2 Tryd.prog 6 22 = some [.sl [.i .i64, .i .i64, .i .i64, .i .i64, .i .i64, .i .i64, .i .i64, .i .i64, .i .i64, .i .i64, .i .i64, .i .i64, .i .i64, .i .i64, .i .i64, .i .i64, .i .i64]] := by kernel_rfl
theorem flat7_23 : flat2 Tryd.prog 6 23 = some [.sl [.i .i64, .i .i64, .i .i64, .i .i64, .i .i64, .i .i64]] := by kernel_rfl
theorem flat7_32 : flat2 Tryd.prog 6 32 = some [.i .i64, .i .i64, .i .i64, .i .i64, .i .i64] := by kernel_rfl
set_option maxRecDepth 100000 in
theorem lifted7 (os : Os) (started : os.Started) (H : Type) (enc : TypeId × Value → H) :
 ReturnsInHanded {} Tryd.checked os 7 .any (fun w args => (Rows.topSizesSpec.pre enc Tryd.prog Tryd.f7 Rows.topSizesRow.domain false w args ∧ laidMet Tryd.prog Rows.topSizesRow.laid w) ∧ sizedMet enc Tryd.prog Tryd.f7 (OpenSpec.ofChange Rows.topSizesSpec) false w args) (Rows.topSizesSpec.post enc Tryd.prog Tryd.f7 false true false false) := by
 refine returnsInHanded_of_change_and (C := Tryd.checked) (X := fun w _ => laidMet Tryd.prog Rows.topSizesRow.laid w) (fun _ _ _ hh h => h.of_heap hh) own7 started (by kernel_rfl) Tryd.func7
  (ChangeSpec.witness_at (enc := enc) (C := Tryd.checked) (os := os) (X := fun w _ => laidMet Tryd.prog Rows.topSizesRow.laid w) false (tabWorld os) #[.slice none 0 0, .slice none 0 0, .int .i64 0, .agg #[.int .i64 0, .int .i64 0, .int .i64 0, .int .i64 0, .int .i64 0], .int .i64 0] 8 rfl (by kernel_rfl) (by kernel_rfl) (by kernel_rfl) (by kernel_rfl) (by kernel_rfl) (laid_met os _)) ?_
 intro W base args ds gs before hval0 hW hcnd _ hL _
 have hval : ∀ (j : Nat) t v, Tryd.f7.params[j]? = some t → args[j]? = some v → Value.okWide Tryd.prog W .any base t v := hval0
 have hW' := hW
 obtain ⟨p, q, hA0, hV, rfl, hfz, hnd⟩ := hW
 have hA : DataW.TrodAll enc Tryd.prog W 0 (fun _ => true) true Tryd.f7.params.toList args.toList ds p := hA0
 rw [Tryd.params7] at hA hval
 obtain ⟨v0, vs0, d0, ds0, p0, q0, hargs, rfl, rfl, h0, z0⟩ := trodAll_cons hA
 obtain ⟨v1, vs1, d1, ds1, p1, q1, rfl, rfl, rfl, h1, z1⟩ := trodAll_cons z0
 obtain ⟨v2, vs2, d2, ds2, p2, q2, rfl, rfl, rfl, h2, z2⟩ := trodAll_cons z1
 obtain ⟨v3, vs3, d3, ds3, p3, q3, rfl, rfl, rfl, h3, z3⟩ := trodAll_cons z2
 obtain ⟨v4, vs4, d4, ds4, p4, q4, rfl, rfl, rfl, h4, z4⟩ := trodAll_cons z3
 obtain ⟨rfl, rfl, rfl⟩ := trodAll_nil z4
 obtain rfl : args = #[v0, v1, v2, v3, v4] := by cases args; simp_all
 obtain ⟨rfl, rfl⟩ := trodVars_none hV
 have lt0 : ∀ x ∈ p0, x.block < W.heap.size := by obtain ⟨m, hm⟩ := h0; exact DataW.trod_lt m _ _ _ hm
 have k0 := h0
 have lt1 : ∀ x ∈ p1, x.block < W.heap.size := by obtain ⟨m, hm⟩ := h1; exact DataW.trod_lt m _ _ _ hm
 have k1 := h1
 have lt2 : ∀ x ∈ p2, x.block < W.heap.size := by obtain ⟨m, hm⟩ := h2; exact DataW.trod_lt m _ _ _ hm
 have k2 := h2
 have lt3 : ∀ x ∈ p3, x.block < W.heap.size := by obtain ⟨m, hm⟩ := h3; exact DataW.trod_lt m _ _ _ hm
 have k3 := h3
 have lt4 : ∀ x ∈ p4, x.block < W.heap.size := by obtain ⟨m, hm⟩ := h4; exact DataW.trod_lt m _ _ _ hm
 have k4 := h4
 obtain ⟨a0, c0, d0_, rfl⟩ := okWide_slice Tryd.underlying22 (hval 0 22 v0 rfl rfl)
 obtain ⟨_, s0, r0⟩ := arg1 flat7_22 h0 rfl
 obtain ⟨l0, rfl, n0, m0⟩ := sl_dec (eZ) (fun _ => True) (decZ) s0
 obtain ⟨a1, c1, d1_, rfl⟩ := okWide_slice Tryd.underlying23 (hval 1 23 v1 rfl rfl)
 obtain ⟨_, s1, r1⟩ := arg1 flat7_23 h1 rfl
 obtain ⟨l1, rfl, n1, m1⟩ := sl_dec (eH) (fun _ => True) (decH) s1
 obtain ⟨x2, rfl, -, -, w2⟩ := open_int Tryd.underlying3 (hval 2 3 v2 rfl rfl) h2
 have w2 := wf_i64 w2
 have r2 : VRel (ιφ W) (.i .i64 x2) (.int .i64 x2) := by simp only [VRel]
 obtain ⟨cs3, rfl, -⟩ := okWide_array Tryd.underlying32 (hval 3 32 v3 rfl rfl)
 obtain ⟨as3, s3_0, r3⟩ := argN flat7_32 h3
 obtain ⟨_, _, rfl, t3_0, s3_1⟩ := shps_cons s3_0
 obtain ⟨_, _, rfl, t3_1, s3_2⟩ := shps_cons s3_1
 obtain ⟨_, _, rfl, t3_2, s3_3⟩ := shps_cons s3_2
 obtain ⟨_, _, rfl, t3_3, s3_4⟩ := shps_cons s3_3
 obtain ⟨_, _, rfl, t3_4, s3_5⟩ := shps_cons s3_4
 obtain rfl := shps_nil s3_5
 obtain ⟨x3_0, rfl, w3_0⟩ := shp_i64 t3_0
 obtain ⟨x3_1, rfl, w3_1⟩ := shp_i64 t3_1
 obtain ⟨x3_2, rfl, w3_2⟩ := shp_i64 t3_2
 obtain ⟨x3_3, rfl, w3_3⟩ := shp_i64 t3_3
 obtain ⟨x3_4, rfl, w3_4⟩ := shp_i64 t3_4
 obtain ⟨x4, rfl, -, -, w4⟩ := open_int Tryd.underlying3 (hval 4 3 v4 rfl rfl) h4
 have w4 := wf_i64 w4
 have r4 : VRel (ιφ W) (.i .i64 x4) (.int .i64 x4) := by simp only [VRel]
 clear hA0 hval0
 have hv := (vrels_cons r0 (vrels_cons r1 (vrels_cons r2 (vrels_cons r3 (vrels_cons r4 vrels_nil)))))
 refine (law_pc (P := Tryd.prog) (f := 7) (w := W) (vs := #[.slice a0 c0 d0_, .slice a1 c1 d1_, .int .i64 x2, .agg cs3, .int .i64 x4]) (φW_ok W) (tab_of_laid hL) hv (d7' l0 n0 l1 n1 x2 w2 (fun i => [x3_0, x3_1, x3_2, x3_3, x3_4].getD i 0) x4 w4)).mono fun e W' ⟨he, bel⟩ => ?_
 subst he
 exact ⟨_, rfl, _, _, _, [], _, [], hW', trodAll_mk1 (shut_bool Tryd.underlying4 _), (trodAll_cons_mk (Below.trod laidOut7 (by kernel_rfl) (of_decide_eq_true (by kernel_rfl)) k0 bel lt0) (trodAll_cons_mk (Below.trod laidOut7 (by kernel_rfl) (of_decide_eq_true (by kernel_rfl)) k1 bel lt1) (trodAll_cons_mk (Below.trod laidOut7 (by kernel_rfl) (of_decide_eq_true (by kernel_rfl)) k2 bel lt2) (trodAll_cons_mk (Below.trod laidOut7 (by kernel_rfl) (of_decide_eq_true (by kernel_rfl)) k3 bel lt3) (trodAll_cons_mk (Below.trod laidOut7 (by kernel_rfl) (of_decide_eq_true (by kernel_rfl)) k4 bel lt4) trodAll_mk0))))), rfl, bel.frame _, fun h => by cases h⟩
theorem over7 : Rows.topSizesRow.holds Tryd.pinned (OpenSpec.ofChange Rows.topSizesSpec) :=
 OpenClaim.holds_of_wide 7 Tryd.f7 rfl rfl rfl rfl rfl rfl rfl ⟨rfl, rfl, rfl, rfl, rfl⟩ rfl rfl rfl rfl rfl (by kernel_rfl) Tryd.func7 (by kernel_rfl)
  (of_decide_eq_true (by kernel_rfl)) (by unfold Func.isWrapper; first | (rw [if_pos (by decide +kernel)]; kernel_rfl) | (rw [if_neg (by decide +kernel)]; exact ⟨rfl, rfl⟩))
  (fun os started H enc _ => lifted7 os started H enc)
theorem topSizes_holds : Rows.TopSizesCardSaid :=
 Claim7.holds_tied_plain_at .later [] [.data] true (true, "c59cae1ca1c99694ef2ccced07a09446128e77637d57ca5911b877ff49ee156b") false
  over7 (fun _ h => by cases h) (by kernel_rfl) (fun _ h => by cases h) topSizes_row_tie rfl ⟨rfl, rfl⟩ (by kernel_rfl) rfl
  (fun f fn hf hfn => by
   obtain rfl : f = 7 := Option.some.inj ((show Tryd.prog.funcNamed Rows.topSizesRow.func = some 7 by kernel_rfl).symm.trans hf) |>.symm
   obtain rfl : fn = Tryd.f7 := (Option.some.inj (Tryd.func7.symm.trans hfn)).symm
   exact ⟨by kernel_rfl, fun j t ht => by
    rw [Tryd.params7] at ht
    have h3 : t ∈ [22, 23, 3, 32, 3] := List.mem_of_getElem? (by simpa using ht)
    simp only [List.mem_cons, List.not_mem_nil, or_false] at h3
    rcases h3 with rfl | rfl | rfl | rfl | rfl
    ·exact (show Tryd.prog.wantsStandIn 22 = false by kernel_rfl)
    ·exact (show Tryd.prog.wantsStandIn 23 = false by kernel_rfl)
    ·exact (show Tryd.prog.wantsStandIn 3 = false by kernel_rfl)
    ·exact (show Tryd.prog.wantsStandIn 32 = false by kernel_rfl)
    ·exact (show Tryd.prog.wantsStandIn 3 = false by kernel_rfl)⟩)
  (by kernel_rfl)
end Go.Proofs.YtjaihaccehaicaaDoor
