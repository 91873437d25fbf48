/- The law LastMore holds for every input; there is no condition. -/
import Derived.Test.YtjaihaccehaicaaDoorZi
import Derived.Test.YtjaihaccehaicaaDoorCards
import Derived.OpenShut
import Derived.ShutString
import Derived.ChangeOld
import Derived.SevenTiedAt
set_option linter.unusedVariables false
namespace Go.Proofs.YtjaihaccehaicaaDoor
open Go.ChangeShapes Go.WideShapes Go.ChangeAt Go.RowKit
open Go.Am
theorem own4 : ownKnob Tryd.prog.godebug = none := by kernel_rfl
theorem laidOut4 : laidOutB Tryd.prog = true := by kernel_rfl
theorem flat4_22 : flat2 Tryd.prog 6 22 = some [.sl [.i .i64, .i .i64, .i .i64, .i .i64, .i .i64, .i .i64, .i .i64, .i .i64, .i .i64, .i .i64, .i .i64, .i .i64, .i .i64, .i .i64, .i .i64, .i .i64, .i .i64]] := by kernel_rfl
theorem flat4_23 : flat2 Tryd.prog 6 23 = some [.sl [.i .i64, .i .i64, .i .i64, .i .i64, .i .i64, .i .i64]] := by kernel_rfl
theorem flat4_40 : flat2 Tryd.prog 6 40 = some [.i .i64, .i .i64, .i .i64, .i .i64, .i .i64, .i .i64, .i .i64, .i .i64, .i .i64, .i .i64, .i .i64, .i .i64, .i .i64, .i .i64, .i .i64, .i .i64, .i .i64] := by kernel_rfl
theorem flat4_34 : flat2 Tryd.prog 6 34 = some [.i .i64, .i .i64, .i .i64, .i .i64, .i .i64, .i .i64] := by kernel_rfl
set_option maxRecDepth 100000 in
theorem lifted4 (os : Os) (started : os.Started) (H : Type) (enc : TypeId × Value → H) :
 ReturnsInHanded {} Tryd.checked os 4 .any (fun w args => (Rows.lastMoreSpec.pre enc Tryd.prog Tryd.f4 Rows.lastMoreRow.domain false w args ∧ laidMet Tryd.prog Rows.lastMoreRow.laid w) ∧ sizedMet enc Tryd.prog Tryd.f4 (OpenSpec.ofChange Rows.lastMoreSpec) false w args) (Rows.lastMoreSpec.post enc Tryd.prog Tryd.f4 false true false false) := by
 refine returnsInHanded_of_change_and (C := Tryd.checked) (X := fun w _ => laidMet Tryd.prog Rows.lastMoreRow.laid w) (fun _ _ _ hh h => h.of_heap hh) own4 started (by kernel_rfl) Tryd.func4
  (ChangeSpec.witness_at (enc := enc) (C := Tryd.checked) (os := os) (X := fun w _ => laidMet Tryd.prog Rows.lastMoreRow.laid w) false (tabWorld os) #[.slice none 0 0, .slice none 0 0, .agg #[.int .i64 0, .int .i64 0, .int .i64 0, .int .i64 0, .int .i64 0, .int .i64 0, .int .i64 0, .int .i64 0, .int .i64 0, .int .i64 0, .int .i64 0, .int .i64 0, .int .i64 0, .int .i64 0, .int .i64 0, .int .i64 0, .int .i64 0], .agg #[.int .i64 0, .int .i64 0, .int .i64 0, .int .i64 0, .int .i64 0, .int .i64 0]] 8 rfl (by kernel_rfl) (by kernel_rfl) (by kernel_rfl) (by kernel_rfl) (by kernel_rfl) (laid_met os _)) ?_
 intro W base args ds gs before hval0 hW hcnd _ hL _
 have hval : ∀ (j : Nat) t v, Tryd.f4.params[j]? = some t → args[j]? = some v → Value.okWide Tryd.prog W .any base t v := hval0
 have hW' := hW
 obtain ⟨p, q, hA0, hV, rfl, hfz, hnd⟩ := hW
 have hA : DataW.TrodAll enc Tryd.prog W 0 (fun _ => true) true Tryd.f4.params.toList args.toList ds p := hA0
 rw [Tryd.params4] at hA hval
 obtain ⟨v0, vs0, d0, ds0, p0, q0, hargs, rfl, rfl, h0, z0⟩ := trodAll_cons hA
 obtain ⟨v1, vs1, d1, ds1, p1, q1, rfl, rfl, rfl, h1, z1⟩ := trodAll_cons z0
 obtain ⟨v2, vs2, d2, ds2, p2, q2, rfl, rfl, rfl, h2, z2⟩ := trodAll_cons z1
 obtain ⟨v3, vs3, d3, ds3, p3, q3, rfl, rfl, rfl, h3, z3⟩ := trodAll_cons z2
 obtain ⟨rfl, rfl, rfl⟩ := trodAll_nil z3
 obtain rfl : args = #[v0, v1, v2, v3] := by cases args; simp_all
 obtain ⟨rfl, rfl⟩ := trodVars_none hV
 have lt0 : ∀ x ∈ p0, x.block < W.heap.size := by obtain ⟨m, hm⟩ := h0; exact DataW.trod_lt m _ _ _ hm
 have k0 := h0
 have lt1 : ∀ x ∈ p1, x.block < W.heap.size := by obtain ⟨m, hm⟩ := h1; exact DataW.trod_lt m _ _ _ hm
 have k1 := h1
 have lt2 : ∀ x ∈ p2, x.block < W.heap.size := by obtain ⟨m, hm⟩ := h2; exact DataW.trod_lt m _ _ _ hm
 have k2 := h2
 have lt3 : ∀ x ∈ p3, x.block < W.heap.size := by obtain ⟨m, hm⟩ := h3; exact DataW.trod_lt m _ _ _ hm
 have k3 := h3
 obtain ⟨a0, c0, d0_, rfl⟩ := okWide_slice Tryd.underlying22 (hval 0 22 v0 rfl rfl)
 obtain ⟨_, s0, r0⟩ := arg1 flat4_22 h0 rfl
 obtain ⟨l0, rfl, n0, m0⟩ := sl_dec (eZ) (fun _ => True) (decZ) s0
 obtain ⟨a1, c1, d1_, rfl⟩ := okWide_slice Tryd.underlying23 (hval 1 23 v1 rfl rfl)
 obtain ⟨_, s1, r1⟩ := arg1 flat4_23 h1 rfl
 obtain ⟨l1, rfl, n1, m1⟩ := sl_dec (eH) (fun _ => True) (decH) s1
 obtain ⟨cs2, rfl, -⟩ := okWide_struct Tryd.underlying40 (hval 2 40 v2 rfl rfl)
 obtain ⟨as2, s2_0, r2⟩ := argN flat4_40 h2
 obtain ⟨_, _, rfl, t2_0, s2_1⟩ := shps_cons s2_0
 obtain ⟨_, _, rfl, t2_1, s2_2⟩ := shps_cons s2_1
 obtain ⟨_, _, rfl, t2_2, s2_3⟩ := shps_cons s2_2
 obtain ⟨_, _, rfl, t2_3, s2_4⟩ := shps_cons s2_3
 obtain ⟨_, _, rfl, t2_4, s2_5⟩ := shps_cons s2_4
 obtain ⟨_, _, rfl, t2_5, s2_6⟩ := shps_cons s2_5
 obtain ⟨_, _, rfl, t2_6, s2_7⟩ := shps_cons s2_6
 obtain ⟨_, _, rfl, t2_7, s2_8⟩ := shps_cons s2_7
 obtain ⟨_, _, rfl, t2_8, s2_9⟩ := shps_cons s2_8
 obtain ⟨_, _, rfl, t2_9, s2_10⟩ := shps_cons s2_9
 obtain ⟨_, _, rfl, t2_10, s2_11⟩ := shps_cons s2_10
 obtain ⟨_, _, rfl, t2_11, s2_12⟩ := shps_cons s2_11
 obtain ⟨_, _, rfl, t2_12, s2_13⟩ := shps_cons s2_12
 obtain ⟨_, _, rfl, t2_13, s2_14⟩ := shps_cons s2_13
 obtain ⟨_, _, rfl, t2_14, s2_15⟩ := shps_cons s2_14
 obtain ⟨_, _, rfl, t2_15, s2_16⟩ := shps_cons s2_15
 obtain ⟨_, _, rfl, t2_16, s2_17⟩ := shps_cons s2_16
 obtain rfl := shps_nil s2_17
 obtain ⟨x2_0, rfl, w2_0⟩ := shp_i64 t2_0
 obtain ⟨x2_1, rfl, w2_1⟩ := shp_i64 t2_1
 obtain ⟨x2_2, rfl, w2_2⟩ := shp_i64 t2_2
 obtain ⟨x2_3, rfl, w2_3⟩ := shp_i64 t2_3
 obtain ⟨x2_4, rfl, w2_4⟩ := shp_i64 t2_4
 obtain ⟨x2_5, rfl, w2_5⟩ := shp_i64 t2_5
 obtain ⟨x2_6, rfl, w2_6⟩ := shp_i64 t2_6
 obtain ⟨x2_7, rfl, w2_7⟩ := shp_i64 t2_7
 obtain ⟨x2_8, rfl, w2_8⟩ := shp_i64 t2_8
 obtain ⟨x2_9, rfl, w2_9⟩ := shp_i64 t2_9
 obtain ⟨x2_10, rfl, w2_10⟩ := shp_i64 t2_10
 obtain ⟨x2_11, rfl, w2_11⟩ := shp_i64 t2_11
 obtain ⟨x2_12, rfl, w2_12⟩ := shp_i64 t2_12
 obtain ⟨x2_13, rfl, w2_13⟩ := shp_i64 t2_13
 obtain ⟨x2_14, rfl, w2_14⟩ := shp_i64 t2_14
 obtain ⟨x2_15, rfl, w2_15⟩ := shp_i64 t2_15
 obtain ⟨x2_16, rfl, w2_16⟩ := shp_i64 t2_16
 obtain ⟨cs3, rfl, -⟩ := okWide_struct Tryd.underlying34 (hval 3 34 v3 rfl rfl)
 obtain ⟨as3, s3_0, r3⟩ := argN flat4_34 h3
 obtain ⟨_, _, rfl, t3_0, s3_1⟩ := shps_cons s3_0
 obtain ⟨_, _, rfl, t3_1, s3_2⟩ := shps_cons s3_1
 obtain ⟨_, _, rfl, t3_2, s3_3⟩ := shps_cons s3_2
 obtain ⟨_, _, rfl, t3_3, s3_4⟩ := shps_cons s3_3
 obtain ⟨_, _, rfl, t3_4, s3_5⟩ := shps_cons s3_4
 obtain ⟨_, _, rfl, t3_5, s3_6⟩ := shps_cons s3_5
 obtain rfl := shps_nil s3_6
 obtain ⟨x3_0, rfl, w3_0⟩ := shp_i64 t3_0
 obtain ⟨x3_1, rfl, w3_1⟩ := shp_i64 t3_1
 obtain ⟨x3_2, rfl, w3_2⟩ := shp_i64 t3_2
 obtain ⟨x3_3, rfl, w3_3⟩ := shp_i64 t3_3
 obtain ⟨x3_4, rfl, w3_4⟩ := shp_i64 t3_4
 obtain ⟨x3_5, rfl, w3_5⟩ := shp_i64 t3_5
 clear hA0 hval0
 have hv := (vrels_cons r0 (vrels_cons r1 (vrels_cons r2 (vrels_cons r3 vrels_nil))))
 refine (law_pc (P := Tryd.prog) (f := 4) (w := W) (vs := #[.slice a0 c0 d0_, .slice a1 c1 d1_, .agg cs2, .agg cs3]) (φW_ok W) (tab_of_laid hL) hv (d4' l0 n0 l1 n1 ⟨x2_0, (fun i => [x2_1, x2_2, x2_3, x2_4, x2_5].getD i 0), (fun i => [x2_6, x2_7, x2_8, x2_9, x2_10].getD i 0), (fun i => [x2_11, x2_12, x2_13, x2_14, x2_15].getD i 0), x2_16⟩ ⟨x3_0, (fun i => [x3_1, x3_2, x3_3, x3_4, x3_5].getD i 0)⟩)).mono fun e W' ⟨he, bel⟩ => ?_
 subst he
 exact ⟨_, rfl, _, _, _, [], _, [], hW', trodAll_mk1 (shut_bool Tryd.underlying4 _), (trodAll_cons_mk (Below.trod laidOut4 (by kernel_rfl) (of_decide_eq_true (by kernel_rfl)) k0 bel lt0) (trodAll_cons_mk (Below.trod laidOut4 (by kernel_rfl) (of_decide_eq_true (by kernel_rfl)) k1 bel lt1) (trodAll_cons_mk (Below.trod laidOut4 (by kernel_rfl) (of_decide_eq_true (by kernel_rfl)) k2 bel lt2) (trodAll_cons_mk (Below.trod laidOut4 (by kernel_rfl) (of_decide_eq_true (by kernel_rfl)) k3 bel lt3) trodAll_mk0)))), rfl, bel.frame _, fun h => by cases h⟩
theorem over4 : Rows.lastMoreRow.holds Tryd.pinned (OpenSpec.ofChange Rows.lastMoreSpec) :=
 OpenClaim.holds_of_wide 4 Tryd.f4 rfl rfl rfl rfl rfl rfl rfl ⟨rfl, rfl, rfl, rfl, rfl⟩ rfl rfl rfl rfl rfl (by kernel_rfl) Tryd.func4 (by kernel_rfl)
  (of_decide_eq_true (by kernel_rfl)) (by unfold Func.isWrapper; first | (rw [if_pos (by decide +kernel)]; kernel_rfl) | (rw [if_neg (by decide +kernel)]; exact ⟨rfl, rfl⟩))
  (fun os started H enc _ => lifted4 os started H enc)
theorem lastMore_holds : Rows.LastMoreCardSaid :=
 Claim7.holds_tied_plain_at .later [] [.data] true (true, "c59cae1ca1c99694ef2ccced07a09446128e77637d57ca5911b877ff49ee156b") false
  over4 (fun _ h => by cases h) (by kernel_rfl) (fun _ h => by cases h) lastMore_row_tie rfl ⟨rfl, rfl⟩ (by kernel_rfl) rfl
  (fun f fn hf hfn => by
   obtain rfl : f = 4 := Option.some.inj ((show Tryd.prog.funcNamed Rows.lastMoreRow.func = some 4 by kernel_rfl).symm.trans hf) |>.symm
   obtain rfl : fn = Tryd.f4 := (Option.some.inj (Tryd.func4.symm.trans hfn)).symm
   exact ⟨by kernel_rfl, fun j t ht => by
    rw [Tryd.params4] at ht
    have h3 : t ∈ [22, 23, 40, 34] := List.mem_of_getElem? (by simpa using ht)
    simp only [List.mem_cons, List.not_mem_nil, or_false] at h3
    rcases h3 with rfl | rfl | rfl | rfl
    ·exact (show Tryd.prog.wantsStandIn 22 = false by kernel_rfl)
    ·exact (show Tryd.prog.wantsStandIn 23 = false by kernel_rfl)
    ·exact (show Tryd.prog.wantsStandIn 40 = false by kernel_rfl)
    ·exact (show Tryd.prog.wantsStandIn 34 = false by kernel_rfl)⟩)
  (by kernel_rfl)
end Go.Proofs.YtjaihaccehaicaaDoor
