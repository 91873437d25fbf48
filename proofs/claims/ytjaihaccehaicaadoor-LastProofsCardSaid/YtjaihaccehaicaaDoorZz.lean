/- The law LastProofs holds for every input; there is no condition. -/
import Derived.Test.YtjaihaccehaicaaDoorZi
import Derived.Test.YtjaihaccehaicaaDoorCards
import Derived.OpenShut
import Derived.ShutString
import Derived.ChangeOld
import Derived.SevenTiedAt
set_option linter.unusedVariables false
namespace Go.Proofs.YtjaihaccehaicaaDoor
open Go.ChangeShapes Go.WideShapes Go.ChangeAt Go.RowKit
open Go.Am
theorem own6 : ownKnob Tryd.prog.godebug = none := by kernel_rfl
theorem laidOut6 : laidOutB Tryd.prog = true := by kernel_rfl
theorem flat6_22 : flat2 Tryd.prog 6 22 = some [.sl [.i .i64, .i .i64, .i .i64, .i .i64, .i .i64, .i .i64, .i .i64, .i .i64, .i .i64, .i .i64, .i .i64, .i .i64, .i .i64, .i .i64, .i .i64, .i .i64, .i .i64]] := by kernel_rfl
theorem flat6_23 : flat2 Tryd.prog 6 23 = some [.sl [.i .i64, .i .i64, .i .i64, .i .i64, .i .i64, .i .i64]] := by kernel_rfl
theorem flat6_31 : flat2 Tryd.prog 6 31 = some [.sl [.i .i64]] := by kernel_rfl
set_option maxRecDepth 100000 in
theorem lifted6 (os : Os) (started : os.Started) (H : Type) (enc : TypeId × Value → H) :
 ReturnsInHanded {} Tryd.checked os 6 .any (fun w args => (Rows.lastProofsSpec.pre enc Tryd.prog Tryd.f6 Rows.lastProofsRow.domain false w args ∧ laidMet Tryd.prog Rows.lastProofsRow.laid w) ∧ sizedMet enc Tryd.prog Tryd.f6 (OpenSpec.ofChange Rows.lastProofsSpec) false w args) (Rows.lastProofsSpec.post enc Tryd.prog Tryd.f6 false true false false) := by
 refine returnsInHanded_of_change_and (C := Tryd.checked) (X := fun w _ => laidMet Tryd.prog Rows.lastProofsRow.laid w) (fun _ _ _ hh h => h.of_heap hh) own6 started (by kernel_rfl) Tryd.func6
  (ChangeSpec.witness_at (enc := enc) (C := Tryd.checked) (os := os) (X := fun w _ => laidMet Tryd.prog Rows.lastProofsRow.laid w) false (tabWorld os) #[.slice none 0 0, .slice none 0 0, .slice none 0 0, .slice none 0 0] 8 rfl (by kernel_rfl) (by kernel_rfl) (by kernel_rfl) (by kernel_rfl) (by kernel_rfl) (laid_met os _)) ?_
 intro W base args ds gs before hval0 hW hcnd _ hL _
 have hval : ∀ (j : Nat) t v, Tryd.f6.params[j]? = some t → args[j]? = some v → Value.okWide Tryd.prog W .any base t v := hval0
 have hW' := hW
 obtain ⟨p, q, hA0, hV, rfl, hfz, hnd⟩ := hW
 have hA : DataW.TrodAll enc Tryd.prog W 0 (fun _ => true) true Tryd.f6.params.toList args.toList ds p := hA0
 rw [Tryd.params6] at hA hval
 obtain ⟨v0, vs0, d0, ds0, p0, q0, hargs, rfl, rfl, h0, z0⟩ := trodAll_cons hA
 obtain ⟨v1, vs1, d1, ds1, p1, q1, rfl, rfl, rfl, h1, z1⟩ := trodAll_cons z0
 obtain ⟨v2, vs2, d2, ds2, p2, q2, rfl, rfl, rfl, h2, z2⟩ := trodAll_cons z1
 obtain ⟨v3, vs3, d3, ds3, p3, q3, rfl, rfl, rfl, h3, z3⟩ := trodAll_cons z2
 obtain ⟨rfl, rfl, rfl⟩ := trodAll_nil z3
 obtain rfl : args = #[v0, v1, v2, v3] := by cases args; simp_all
 obtain ⟨rfl, rfl⟩ := trodVars_none hV
 have lt0 : ∀ x ∈ p0, x.block < W.heap.size := by obtain ⟨m, hm⟩ := h0; exact DataW.trod_lt m _ _ _ hm
 have k0 := h0
 have lt1 : ∀ x ∈ p1, x.block < W.heap.size := by obtain ⟨m, hm⟩ := h1; exact DataW.trod_lt m _ _ _ hm
 have k1 := h1
 have lt2 : ∀ x ∈ p2, x.block < W.heap.size := by obtain ⟨m, hm⟩ := h2; exact DataW.trod_lt m _ _ _ hm
 have k2 := h2
 have lt3 : ∀ x ∈ p3, x.block < W.heap.size := by obtain ⟨m, hm⟩ := h3; exact DataW.trod_lt m _ _ _ hm
 have k3 := h3
 obtain ⟨a0, c0, d0_, rfl⟩ := okWide_slice Tryd.underlying22 (hval 0 22 v0 rfl rfl)
 obtain ⟨_, s0, r0⟩ := arg1 flat6_22 h0 rfl
 obtain ⟨l0, rfl, n0, m0⟩ := sl_dec (eZ) (fun _ => True) (decZ) s0
 obtain ⟨a1, c1, d1_, rfl⟩ := okWide_slice Tryd.underlying23 (hval 1 23 v1 rfl rfl)
 obtain ⟨_, s1, r1⟩ := arg1 flat6_23 h1 rfl
 obtain ⟨l1, rfl, n1, m1⟩ := sl_dec (eH) (fun _ => True) (decH) s1
 obtain ⟨a2, c2, d2_, rfl⟩ := okWide_slice Tryd.underlying31 (hval 2 31 v2 rfl rfl)
 obtain ⟨_, s2, r2⟩ := arg1 flat6_31 h2 rfl
 obtain ⟨l2, rfl, n2, m2⟩ := sl_dec (eI) (fun _ => True) (decI) s2
 obtain ⟨a3, c3, d3_, rfl⟩ := okWide_slice Tryd.underlying31 (hval 3 31 v3 rfl rfl)
 obtain ⟨_, s3, r3⟩ := arg1 flat6_31 h3 rfl
 obtain ⟨l3, rfl, n3, m3⟩ := sl_dec (eI) (fun _ => True) (decI) s3
 clear hA0 hval0
 have hv := (vrels_cons r0 (vrels_cons r1 (vrels_cons r2 (vrels_cons r3 vrels_nil))))
 refine (law_pc (P := Tryd.prog) (f := 6) (w := W) (vs := #[.slice a0 c0 d0_, .slice a1 c1 d1_, .slice a2 c2 d2_, .slice a3 c3 d3_]) (φW_ok W) (tab_of_laid hL) hv (d6' l0 n0 l1 n1 l2 n2 l3 n3)).mono fun e W' ⟨he, bel⟩ => ?_
 subst he
 exact ⟨_, rfl, _, _, _, [], _, [], hW', trodAll_mk1 (shut_bool Tryd.underlying4 _), (trodAll_cons_mk (Below.trod laidOut6 (by kernel_rfl) (of_decide_eq_true (by kernel_rfl)) k0 bel lt0) (trodAll_cons_mk (Below.trod laidOut6 (by kernel_rfl) (of_decide_eq_true (by kernel_rfl)) k1 bel lt1) (trodAll_cons_mk (Below.trod laidOut6 (by kernel_rfl) (of_decide_eq_true (by kernel_rfl)) k2 bel lt2) (trodAll_cons_mk (Below.trod laidOut6 (by kernel_rfl) (of_decide_eq_true (by kernel_rfl)) k3 bel lt3) trodAll_mk0)))), rfl, bel.frame _, fun h => by cases h⟩
theorem over6 : Rows.lastProofsRow.holds Tryd.pinned (OpenSpec.ofChange Rows.lastProofsSpec) :=
 OpenClaim.holds_of_wide 6 Tryd.f6 rfl rfl rfl rfl rfl rfl rfl ⟨rfl, rfl, rfl, rfl, rfl⟩ rfl rfl rfl rfl rfl (by kernel_rfl) Tryd.func6 (by kernel_rfl)
  (of_decide_eq_true (by kernel_rfl)) (by unfold Func.isWrapper; first | (rw [if_pos (by decide +kernel)]; kernel_rfl) | (rw [if_neg (by decide +kernel)]; exact ⟨rfl, rfl⟩))
  (fun os started H enc _ => lifted6 os started H enc)
theorem lastProofs_holds : Rows.LastProofsCardSaid :=
 Claim7.holds_tied_plain_at .later [] [.data] true (true, "c59cae1ca1c99694ef2ccced07a09446128e77637d57ca5911b877ff49ee156b") false
  over6 (fun _ h => by cases h) (by kernel_rfl) (fun _ h => by cases h) lastProofs_row_tie rfl ⟨rfl, rfl⟩ (by kernel_rfl) rfl
  (fun f fn hf hfn => by
   obtain rfl : f = 6 := Option.some.inj ((show Tryd.prog.funcNamed Rows.lastProofsRow.func = some 6 by kernel_rfl).symm.trans hf) |>.symm
   obtain rfl : fn = Tryd.f6 := (Option.some.inj (Tryd.func6.symm.trans hfn)).symm
   exact ⟨by kernel_rfl, fun j t ht => by
    rw [Tryd.params6] at ht
    have h3 : t ∈ [22, 23, 31, 31] := List.mem_of_getElem? (by simpa using ht)
    simp only [List.mem_cons, List.not_mem_nil, or_false] at h3
    rcases h3 with rfl | rfl | rfl | rfl
    ·exact (show Tryd.prog.wantsStandIn 22 = false by kernel_rfl)
    ·exact (show Tryd.prog.wantsStandIn 23 = false by kernel_rfl)
    ·exact (show Tryd.prog.wantsStandIn 31 = false by kernel_rfl)
    ·exact (show Tryd.prog.wantsStandIn 31 = false by kernel_rfl)⟩)
  (by kernel_rfl)
end Go.Proofs.YtjaihaccehaicaaDoor
