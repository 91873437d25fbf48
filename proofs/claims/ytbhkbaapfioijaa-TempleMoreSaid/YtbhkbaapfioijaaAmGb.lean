/- The abstract machine: maps. -/
import Derived.Test.YtbhkbaapfioijaaAmGa
import Derived.MapKept
import Derived.WideKeyRuns
set_option linter.unusedVariables false
set_option linter.unusedSimpArgs false
namespace Go.Am
section
variable {P : Program} {N : Nat} {ι : Inj} {st : St} {a : Act} {h : AH} {w : World}

/-! ### Keys -/
theorem aeq_eq : ∀ {ks : List Nat} {xs ys : List AV} {us vs : List Value}, ks.all (· != 2) = true → aeq ks xs ys = some true → VRels ι xs us → VRels ι ys vs → us = vs ∧ ∀ u ∈ us, ∀ n, Instr.sameBits n u u = true
  | [], xs, ys, us, vs, _, h, r, s => by
    obtain ⟨rfl, rfl, _⟩ := aeq_nil h
    simp only [VRels] at r s
    subst r; subst s; exact ⟨rfl, fun u hu => by cases hu⟩
  | k :: ks, xs, ys, us, vs, h2, h, r, s => by
    simp only [List.all_cons, Bool.and_eq_true] at h2
    rcases aeq_kind h with rfl | rfl | rfl
    · obtain ⟨kk, p, q, r', s', c, rfl, rfl, hc, hb⟩ := aeq_int h
      simp only [VRels, VRel] at r s
      obtain ⟨_, u2, rfl, rfl, r2⟩ := r
      obtain ⟨_, v2, rfl, rfl, s2⟩ := s
      have hb' : p = q ∧ c = true := by simpa using hb.symm
      obtain ⟨rfl, rfl⟩ := hb'
      obtain ⟨e2, e3⟩ := aeq_eq h2.2 hc r2 s2
      subst e2
      refine ⟨rfl, fun u hu n => ?_⟩
      rcases List.mem_cons.1 hu with rfl | hu
      · cases n <;> simp [Instr.sameBits]
      · exact e3 u hu n
    · obtain ⟨p, q, r', s', c, rfl, rfl, hc, hb⟩ := aeq_bool h
      simp only [VRels, VRel] at r s
      obtain ⟨_, u2, rfl, rfl, r2⟩ := r
      obtain ⟨_, v2, rfl, rfl, s2⟩ := s
      have hb' : p = q ∧ c = true := by simpa using hb.symm
      obtain ⟨rfl, rfl⟩ := hb'
      obtain ⟨e2, e3⟩ := aeq_eq h2.2 hc r2 s2
      subst e2
      refine ⟨rfl, fun u hu n => ?_⟩
      rcases List.mem_cons.1 hu with rfl | hu
      · cases n <;> simp [Instr.sameBits]
      · exact e3 u hu n
    · simp at h2

theorem sameBits_agg {us : Array Value} (h : ∀ u ∈ us.toList, ∀ n, Instr.sameBits n u u = true) : Instr.sameBits 10000 (.agg us) (.agg us) = true := by
  simp only [Instr.sameBits, BEq.rfl, Bool.true_and, List.all_eq_true]
  intro p hp
  obtain ⟨x, y⟩ := p
  have : x = y := by
    have hz : us.toList.zip us.toList = us.toList.map fun x => (x, x) := by
      generalize us.toList = l
      induction l with
      | nil => rfl
      | cons a l ih => simp [ih]
    rw [hz] at hp
    obtain ⟨z, _, e⟩ := List.mem_map.1 hp
    cases e; rfl
  subst this
  exact h x (List.of_mem_zip hp).1 _

structure KeyOk (P : Program) (kt : TypeId) (kk : Option (List Nat)) : Prop where
  sc : kk = none → ∃ k, P.underlying kt = some (.int k)
  ag : ∀ ks, kk = some ks → flatEq P 8 kt = some ks ∧ aggOf P kt = some true ∧ ks.all (· != 2) = true ∧ (match P.underlying kt with | some (.array _ _) | some (.struct _) => true | _ => false) = true
theorem keyK_ok {kt : TypeId} {kk : Option (List Nat)} (h : keyK P kt = some kk) : KeyOk P kt kk := by
  unfold keyK at h
  split at h
  · rename_i k hu; cases h; exact ⟨fun _ => ⟨k, hu⟩, fun ks hk => nomatch hk⟩
  · rename_i fs hu
    simp only [Option.bind_eq_some_iff] at h
    obtain ⟨ks, hf, h⟩ := h
    split at h
    · rename_i h2; cases h
      exact ⟨(fun e => by cases e), fun ks' e => by cases e; exact ⟨hf, by simp [aggOf, hu], h2, by simp [hu]⟩⟩
    · cases h
  · rename_i n e hu
    simp only [Option.bind_eq_some_iff] at h
    obtain ⟨ks, hf, h⟩ := h
    split at h
    · rename_i h2; cases h
      exact ⟨(fun e => by cases e), fun ks' e => by cases e; exact ⟨hf, by simp [aggOf, hu], h2, by simp [hu]⟩⟩
    · cases h
  · cases h

theorem kq_eq {kt : TypeId} {kk : Option (List Nat)} (ok : KeyOk P kt kk) {x y : AV} {u v : Value} (h : kq kk x y = some true) (r : VRel ι x u) (s : VRel ι y v) : u = v ∧ Instr.sameBits 10000 u u = true := by
  unfold kq at h
  split at h
  · split at h
    · rename_i hk; subst hk
      simp only [Option.some.injEq, decide_eq_true_eq] at h
      subst h
      simp only [VRel] at r s
      subst r; subst s
      exact ⟨rfl, by simp [Instr.sameBits]⟩
    · cases h
  · rename_i ks cs ds
    simp only [VRel] at r s
    obtain ⟨xs, rfl, r⟩ := r
    obtain ⟨ys, rfl, s⟩ := s
    obtain ⟨e, e2⟩ := aeq_eq (ok.ag ks rfl).2.2.1 h r s
    have : xs = ys := Array.toList_inj.1 e
    subst this
    exact ⟨rfl, sameBits_agg e2⟩
  · cases h

/-- a key that is compared can be a key -/
theorem check_flat (em : Bool) : ∀ (f : Nat) {t : TypeId} {n : List Nat}, flatEq P f t = some n → ∀ (d : Nat), f ≤ d → ∀ {cs : List AV} {u : Value}, cs.length = n.length → (aggOf P t = some true → ∃ xs, u = .agg xs ∧ VRels ι cs xs.toList) →
    ∀ w : World, (Instr.checkKey em d t u).run P w = .ok () w
  | 0, t, n, hf, _, _, _, _, _, _, _ => by simp [flatEq] at hf
  | f + 1, t, n, hf, d, hd, cs, u, hl, hu', w => by
    obtain ⟨d, rfl⟩ : ∃ d', d = d' + 1 := ⟨d - 1, by omega⟩
    simp only [flatEq] at hf
    split at hf
    · rename_i k hu; simp [Instr.checkKey, und_run hu]
    · rename_i hu; simp [Instr.checkKey, und_run hu]
    · rename_i hu; simp [Instr.checkKey, und_run hu]
    · rename_i fs hu
      split at hf
      · rename_i m hm
        split at hf
        · cases hf
          obtain ⟨xs, rfl, rx⟩ := hu' (by simp [aggOf, hu])
          rw [Instr.checkKey]
          simp only [Sem.run_bind, und_run hu, Result.andThen_ok]
          rw [← Array.forIn_toList]
          have go : ∀ (l : List Field) (off : Nat) (m : List Nat), flatEqF (flatEq P f) l off = some m → off + m.length ≤ cs.length →
              (forIn l PUnit.unit fun (f : Field) (_ : PUnit) => (if f.name ≠ "_" then (do Instr.checkKey em d f.type (← part f.type xs f.offset); pure (ForInStep.yield PUnit.unit)) else pure (ForInStep.yield PUnit.unit) : Sem (ForInStep PUnit))).run P w = .ok () w := by
            intro l
            induction l with
            | nil => intro off m _ _; simp
            | cons fd l ih =>
              intro off m hm h1
              simp only [flatEqF] at hm
              split at hm
              · rename_i k1 hk1
                split at hm
                · rename_i hcc
                  simp only [Option.map_eq_some_iff] at hm
                  obtain ⟨k2, hk2, rfl⟩ := hm
                  rw [List.length_append] at h1
                  obtain ⟨v1, r1, r2, r3⟩ := part_flat hk1 rx (off := off) (by omega) w
                  have e := check_flat em f hk1 d (by omega) (cs := (cs.drop off).take k1.length) (by simp; omega) r2 w
                  have rest := ih (off + k1.length) k2 hk2 (by omega)
                  rw [← hcc.1] at r1
                  simp only [List.forIn_cons, Sem.run_bind, hcc.2, ne_eq, not_false_eq_true, if_true, Result.andThen_ok, r1, e, Sem.run_pure]
                  exact rest
                · cases hm
              · cases hm
          rw [go fs.toList 0 _ hm (by omega)]; rfl
        · cases hf
      · cases hf
    · rename_i nn e hu
      split at hf
      · rename_i k1 hk1
        split at hf
        · rename_i hc
          cases hf
          obtain ⟨xs, rfl, rx⟩ := hu' (by simp [aggOf, hu])
          have hsz := (flatEq_sz hk1).1
          rw [Instr.checkKey]
          simp only [Sem.run_bind, und_run hu, Result.andThen_ok]
          simp only [Std.Legacy.Range.forIn_eq_forIn_range', Std.Legacy.Range.size, Nat.sub_zero, Nat.add_one_sub_one, Nat.div_one]
          have hlen : (List.replicate nn k1).flatten.length = nn * k1.length := by simp
          have each : ∀ i ∈ List.range' 0 nn, i < nn := fun i hi => by simpa using hi
          generalize List.range' 0 nn = is at each
          induction is with
          | nil => simp
          | cons j is ih =>
            have hj := each j (by simp)
            have hle : j * k1.length + k1.length ≤ cs.length := by
              have := Nat.mul_le_mul_right k1.length (show j + 1 ≤ nn by omega)
              rw [Nat.succ_mul] at this
              omega
            obtain ⟨v1, r1, r2, r3⟩ := part_flat hk1 rx (off := j * k1.length) hle w
            have e' := check_flat em f hk1 d (by omega) (cs := (cs.drop (j * k1.length)).take k1.length) (by simp; omega) r2 w
            simp only [List.forIn_cons, Sem.run_bind, szOf_run hsz, Result.andThen_ok, r1, e', Sem.run_pure]
            exact ih (fun y hy => each y (by simp [hy]))
        · cases hf
      · cases hf
    · cases hf

theorem check_run {kt : TypeId} {kk : Option (List Nat)} (ok : KeyOk P kt kk) {x : AV} {u : Value} (hq : kq kk x x = some true) (r : VRel ι x u) (em : Bool) (w : World) : (Instr.checkKey em 10000 kt u).run P w = .ok () w := by
  cases kk with
  | none =>
    obtain ⟨k, hu⟩ := ok.sc rfl
    show (Instr.checkKey em (9999 + 1) kt u).run P w = .ok () w
    rw [Instr.checkKey]
    simp [und_run hu]
  | some ks =>
    obtain ⟨hf, hag, _, _⟩ := ok.ag ks rfl
    cases x <;> simp only [kq, reduceCtorEq] at hq
    rename_i cs
    have := (aeq_length hq).1
    simp only [VRel] at r
    exact check_flat (ι := ι) em 8 hf 10000 (by omega) this (fun _ => r) w

/-! ### Finding -/
def EL (ι : Inj) : List (AV × AV) → List MapEntry → Prop
  | [], xs => xs = []
  | e :: es, xs => ∃ x r, xs = x :: r ∧ VRel ι e.1 x.key ∧ VRel ι e.2 x.val ∧ EL ι es r
theorem EL.get : ∀ {es : List (AV × AV)} {xs : List MapEntry}, EL ι es xs → ∀ {i : Nat} {k v : AV}, es[i]? = some (k, v) → ∃ x, xs[i]? = some x ∧ VRel ι k x.key ∧ VRel ι v x.val
  | [], xs, h, i, k, v, hi => by simp at hi
  | e :: es, xs, h, i, k, v, hi => by
    obtain ⟨x, r, rfl, h1, h2, h3⟩ := h
    cases i with
    | zero => simp at hi; subst hi; exact ⟨x, rfl, h1, h2⟩
    | succ i => simp at hi; obtain ⟨y, hy, q⟩ := h3.get hi; exact ⟨y, by simpa using hy, q⟩
theorem EL.length : ∀ {es : List (AV × AV)} {xs : List MapEntry}, EL ι es xs → es.length = xs.length
  | [], xs, h => by simp only [EL] at h; subst h; rfl
  | e :: es, xs, h => by obtain ⟨x, r, rfl, h1, h2, h3⟩ := h; simp [h3.length]
theorem EL.of : ∀ {es : List (AV × AV)} {xs : List MapEntry}, es.length = xs.length → (∀ (i : Nat) (k v : AV), es[i]? = some (k, v) → ∃ x : MapEntry, xs[i]? = some x ∧ VRel ι k x.key ∧ VRel ι v x.val) → EL ι es xs
  | [], xs, hl, _ => List.length_eq_zero_iff.1 hl.symm
  | e :: es, [], hl, _ => by simp at hl
  | e :: es, x :: xs, hl, h => by
    obtain ⟨y, hy, h1, h2⟩ := h 0 e.1 e.2 rfl
    simp at hy; subst hy
    exact ⟨x, xs, rfl, h1, h2, EL.of (by simpa using hl) fun i k v hi => by
      obtain ⟨y, hy, q⟩ := h (i + 1) k v (by simpa using hi)
      exact ⟨y, by simpa using hy, q⟩⟩

/-- what is found, in the world -/
def FRel (ι : Inj) (kk : Option (List Nat)) (key : AV) (es : List (AV × AV)) (xs : List MapEntry) (o : Nat) : Option (Nat × AV) → Option (Nat × Value) → Prop
  | none, r => r = none
  | some (i, v), r => ∃ (j : Nat) (x : MapEntry) (k : AV), r = some (i, x.val) ∧ i = o + j ∧ es[j]? = some (k, v) ∧ xs[j]? = some x ∧ VRel ι v x.val ∧ kq kk key k = some true

theorem FRel.up {kk : Option (List Nat)} {key : AV} {e : AV × AV} {es : List (AV × AV)} {x : MapEntry} {xs : List MapEntry} {o : Nat} {r : Option (Nat × AV)} {r' : Option (Nat × Value)} (h : FRel ι kk key es xs (o + 1) r r') : FRel ι kk key (e :: es) (x :: xs) o r r' := by
  cases r with
  | none => exact h
  | some p =>
    obtain ⟨i, v⟩ := p
    obtain ⟨j, y, k, h1, h2, h3, h4, h5⟩ := h
    exact ⟨j + 1, y, k, h1, by omega, by simpa using h3, by simpa using h4, h5⟩

theorem findNow_run {k0 : IntKind} {key : AV} {u : Value} (ru : VRel ι key u) (hq : kq none key key = some true) : ∀ {es : List (AV × AV)} {xs : List MapEntry} {o : Nat} {r : Option (Nat × AV)}, EL ι es xs → mfind none key es o = some r →
    ∃ r', Instr.findNow (.int k0) u xs o = some r' ∧ FRel ι none key es xs o r r'
  | [], xs, o, r, el, hf => by
    simp only [EL] at el
    subst el
    simp only [mfind, Option.some.injEq] at hf
    subst hf
    exact ⟨none, rfl, rfl⟩
  | e :: es, xs, o, r, el, hf => by
    obtain ⟨x, xs, rfl, h1, h2, h3⟩ := el
    cases key <;> simp only [kq, reduceCtorEq] at hq
    rename_i k n
    have ru' := ru
    simp only [VRel] at ru
    simp only [mfind] at hf
    obtain ⟨e1, e2⟩ := e
    have now : ∀ b, kq none (.i k n) e1 = some b → Instr.sameNow (.int k0) u x.key = some b := by
      intro b hb
      cases e1 <;> simp only [kq, reduceCtorEq] at hb
      rename_i k' m
      split at hb
      · rename_i hk; subst hk
        cases hb
        simp only [VRel] at h1
        rw [ru, h1]
        simp [Instr.sameNow]; rfl
      · cases hb
    cases hb : kq none (.i k n) e1 with
    | none => simp only [hb, reduceCtorEq] at hf
    | some b =>
      have hn := now b hb
      simp only [hb] at hf
      cases b with
      | true =>
        simp only [Option.some.injEq] at hf
        subst hf
        exact ⟨some (o, x.val), by simp [Instr.findNow, hn], 0, x, e1, rfl, by omega, rfl, rfl, h2, hb⟩
      | false =>
        obtain ⟨r', q1, q2⟩ := findNow_run (k0 := k0) ru' (by simp [kq]) h3 hf
        exact ⟨r', by simp [Instr.findNow, hn, q1], q2.up⟩

theorem findAsk_run {kt : TypeId} {ks : List Nat} (ok : KeyOk P kt (some ks)) {key : AV} {u : Value} (ru : VRel ι key u) (w : World) : ∀ {es : List (AV × AV)} {xs : List MapEntry} {o : Nat} {r : Option (Nat × AV)}, EL ι es xs → mfind (some ks) key es o = some r →
    ∃ r', (Instr.findAsking kt u xs o).run P w = .ok r' w ∧ FRel ι (some ks) key es xs o r r'
  | [], xs, o, r, el, hf => by
    simp only [EL] at el
    subst el
    simp only [mfind, Option.some.injEq] at hf
    subst hf
    exact ⟨none, by simp [Instr.findAsking], rfl⟩
  | e :: es, xs, o, r, el, hf => by
    obtain ⟨x, xs, rfl, h1, h2, h3⟩ := el
    simp only [mfind] at hf
    obtain ⟨e1, e2⟩ := e
    obtain ⟨hfl, hag, _, _⟩ := ok.ag ks rfl
    have ask : ∀ b, kq (some ks) key e1 = some b → (Op.equal kt u x.key).run P w = .ok b w := by
      intro b hb
      unfold kq at hb
      split at hb
      · rename_i hh; cases hh
      · rename_i ks' cs ds hk
        cases hk
        simp only [VRel] at ru h1
        exact eq_flat (P := P) (ι := ι) 8 hfl 10000 (by omega) hb (fun p _ hq => by simp [hag] at hq) (fun p _ hq => by simp [hag] at hq) (fun _ => ru) (fun _ => h1) w
      · cases hb
    cases hb : kq (some ks) key e1 with
    | none => simp only [hb, reduceCtorEq] at hf
    | some b =>
      have hn := ask b hb
      simp only [hb] at hf
      cases b with
      | true =>
        simp only [Option.some.injEq] at hf
        subst hf
        exact ⟨some (o, x.val), by simp [Instr.findAsking, hn], 0, x, e1, rfl, by omega, rfl, rfl, h2, hb⟩
      | false =>
        obtain ⟨r', q1, q2⟩ := findAsk_run ok ru w h3 hf
        exact ⟨r', by simp [Instr.findAsking, hn, q1], q2.up⟩

theorem find_run {kt : TypeId} {kk : Option (List Nat)} (ok : KeyOk P kt kk) {key : AV} {u : Value} (ru : VRel ι key u) (hq : kq kk key key = some true) (w : World) {es : List (AV × AV)} {xs : List MapEntry} {r : Option (Nat × AV)} (el : EL ι es xs) (hf : mfind kk key es 0 = some r) :
    ∃ r', (Instr.findKey kt u xs).run P w = .ok r' w ∧ FRel ι kk key es xs 0 r r' := by
  cases kk with
  | none =>
    obtain ⟨k, hu⟩ := ok.sc rfl
    obtain ⟨r', h1, h2⟩ := findNow_run (k0 := k) ru hq el hf
    exact ⟨r', by simp [Instr.findKey, und_run hu, h1], h2⟩
  | some ks =>
    obtain ⟨r', h1, h2⟩ := findAsk_run ok ru w el hf
    exact ⟨r', by rw [run_findKey_eq w (ok.ag ks rfl).2.2.2]; exact h1, h2⟩

/-! ### The operations -/
theorem map_of (rw' : WRel ι h w) {t : Nat} {es : List (AV × AV)} (hm : h.m t = some (.map es)) : ∃ l xs ck, ι t = some l ∧ w.heap[l.b]? = some (.map xs ck) ∧ EL ι es xs.toList := by
  have hb := (rw'.blk t _ hm).2
  simp only [BRel] at hb
  obtain ⟨l, xs, ck, h1, h2, h3, h4⟩ := hb
  exact ⟨l, xs, ck, h1, h2, EL.of (by simpa using h3) fun i k v hi => by simpa using h4 i k v hi⟩

theorem zeroV_run {t : TypeId} {z : AV} (hz : zeroV P t = some z) (w : World) : ∃ v, (zeroValue t).run P w = .ok v w ∧ VRel ι z v := by
  unfold zeroV at hz
  simp only [Option.bind_eq_bind, Option.bind_eq_some_iff] at hz
  obtain ⟨i, hi, v, hv, hx⟩ := hz
  exact ⟨v, by simp [zeroValue, typeInfo, hi, hv], absV_sound hx⟩

theorem sound_mlk (ra : ARel N ι st a) (rw' : WRel ι h w) {o : Oper} {t kt e : TypeId} {x i : Operand} {ok : Bool} (ho : o.op = .lookup t x i ok) (ht : P.underlying t = some (.map kt e)) {kk : Option (List Nat)} (hk : keyK P kt = some kk) {z : AV} (hz : zeroV P e = some z)
    {ax ai : AX} (hx : toX x = some ax) (hi : toX i = some ai) : Sound P ι st a h w o (.mlk kk z ok ax ai) := by
  intro v hv
  have rx := toX_sound ra hx
  have ri := toX_sound ra hi
  have K := keyK_ok hk
  simp only [AOp.ev] at hv
  obtain ⟨zv, hzr, hzv⟩ := zeroV_run (ι := ι) hz w
  split at hv
  · rename_i hn
    rw [hn] at rx
    simp only [VRel] at rx
    split at hv
    · rename_i hq
      cases hv
      have hc := check_run K hq ri true w
      have hfn : (Instr.findKey kt (a.eval i) []).run P w = .ok none w := by
        obtain ⟨r', h1, h2⟩ := find_run K ri hq w (es := []) (xs := []) rfl (r := none) (by simp [mfind])
        simp only [FRel] at h2
        subst h2; exact h1
      refine ⟨if ok then .tuple #[zv, .bool false] else zv, ?_, ?_⟩
      · simp [execOp, ho, rx, Instr.lookup, und_run ht, hc, hfn, hzr, Result.andThen]
      · cases ok
        · exact hzv
        · simp only [if_true, VRel, VRels]; exact ⟨_, rfl, _, _, rfl, hzv, _, _, rfl, rfl, rfl⟩
    · cases hv
  · rename_i tk htk
    rw [htk] at rx
    simp only [VRel] at rx
    obtain ⟨l, hl, hp⟩ := rx
    split at hv
    · rename_i es hm
      obtain ⟨l', xs, ck, h1, h2, h3⟩ := map_of rw' hm
      rw [hl] at h1; cases h1
      split at hv
      · rename_i hq
        have hc := check_run K hq ri xs.isEmpty w
        split at hv
        · rename_i j v' hf
          cases hv
          obtain ⟨r', q1, q2⟩ := find_run K ri hq w h3 hf
          obtain ⟨j', x', k', rfl, _, e3, e4, e5, _⟩ := q2
          refine ⟨if ok then .tuple #[x'.val, .bool true] else x'.val, ?_, ?_⟩
          · simp [execOp, ho, hp, Instr.lookup, und_run ht, MapKept.run_getObj_map h2, hc, q1, Result.andThen]
          · cases ok
            · exact e5
            · simp only [if_true, VRel, VRels]; exact ⟨_, rfl, _, _, rfl, e5, _, _, rfl, rfl, rfl⟩
        · rename_i hf
          cases hv
          obtain ⟨r', q1, q2⟩ := find_run K ri hq w h3 hf
          simp only [FRel] at q2
          subst q2
          refine ⟨if ok then .tuple #[zv, .bool false] else zv, ?_, ?_⟩
          · simp [execOp, ho, hp, Instr.lookup, und_run ht, MapKept.run_getObj_map h2, hc, q1, hzr, Result.andThen]
          · cases ok
            · exact hzv
            · simp only [if_true, VRel, VRels]; exact ⟨_, rfl, _, _, rfl, hzv, _, _, rfl, rfl, rfl⟩
        · cases hv
      · cases hv
    · cases hv
  · cases hv

theorem sound_mln (ra : ARel N ι st a) (rw' : WRel ι h w) {o : Oper} {c : Call} (ho : o.op = .call c) (hc : c.callee = .builtin .len) {t : TypeId} {x : Operand} (ht : c.argTypes[0]? = some t) (hx' : c.args.toList = [x]) {k e : TypeId} (hs : P.underlying t = some (.map k e))
    {ax : AX} (hx : toX x = some ax) : Sound P ι st a h w o (.mln ax) := by
  intro v hv
  simp only [AOp.ev] at hv
  have rx := toX_sound ra hx
  have harg : c.args = #[x] := by rw [← Array.toArray_toList (xs := c.args), hx']
  split at hv
  · rename_i hn
    rw [hn] at rx
    simp only [VRel] at rx
    cases hv
    exact ⟨.int .i64 0, by simp [execOp, ho, resolve, hc, invoke, builtin, Builtin.len_, ht, harg, rx, und_run hs, goInt], by simp only [VRel]⟩
  · rename_i tk htk
    rw [htk] at rx
    simp only [VRel] at rx
    obtain ⟨l, hl, hp⟩ := rx
    split at hv
    · rename_i es hm
      cases hv
      obtain ⟨l', xs, ck, h1, h2, h3⟩ := map_of rw' hm
      rw [hl] at h1; cases h1
      have hlen := h3.length
      refine ⟨.int .i64 xs.size, by simp [execOp, ho, resolve, hc, invoke, builtin, Builtin.len_, ht, harg, hp, und_run hs, goInt, MapKept.run_getObj_map h2, Result.andThen], ?_⟩
      simp only [VRel]
      rw [hlen]; simp
    · cases hv
  · cases hv

/-- a map's block, behind a store -/
def mapWorld (w : World) (b : Nat) (o : Obj) : World := { w with heap := w.heap.setIfInBounds b o }
theorem EL.set {es : List (AV × AV)} {xs : List MapEntry} {j : Nat} {k v : AV} {y : MapEntry} (el : EL ι es xs) (hk : VRel ι k y.key) (hv : VRel ι v y.val) : EL ι (es.set j (k, v)) (xs.set j y) := by
  refine EL.of (by simp [el.length]) fun i k' v' hi => ?_
  rw [List.getElem?_set] at hi ⊢
  by_cases e : j = i
  · subst e
    simp only [if_true] at hi ⊢
    split at hi
    · rename_i hlt
      cases hi
      rw [if_pos (by rw [← el.length]; exact hlt)]
      exact ⟨y, rfl, hk, hv⟩
    · cases hi
  · simp only [e, if_false] at hi ⊢
    exact el.get hi
theorem EL.snoc {es : List (AV × AV)} {xs : List MapEntry} {k v : AV} {y : MapEntry} (el : EL ι es xs) (hk : VRel ι k y.key) (hv : VRel ι v y.val) : EL ι (es ++ [(k, v)]) (xs ++ [y]) := by
  refine EL.of (by simp [el.length]) fun i k' v' hi => ?_
  rw [List.getElem?_append] at hi ⊢
  rw [← el.length]
  split at hi
  · rename_i hlt; rw [if_pos hlt]; exact el.get hi
  · rename_i hlt
    rw [if_neg hlt]
    cases hn : i - es.length with
    | zero => rw [hn] at hi; simp at hi; obtain ⟨rfl, rfl⟩ := hi; exact ⟨y, rfl, hk, hv⟩
    | succ n => rw [hn] at hi; simp at hi

theorem mup_run (ra : ARel N ι st a) (rw' : WRel ι h w) {o : Oper} {t kt e : TypeId} {x k v : Operand} (ho : o.op = .mapUpdate t x k v ∨ o.op = .insert t x k v) (ht : P.underlying t = some (.map kt e)) {kk : Option (List Nat)} (hk : keyK P kt = some kk)
    {ax ak av : AX} (hx : toX x = some ax) (hkk : toX k = some ak) (hvv : toX v = some av) {h' : AH} (hc : h.mup kk (ax.val st) (ak.val st) (av.val st) = some h') :
    ∃ tk l es es' xs ck, h.m tk = some (.map es) ∧ ι tk = some l ∧ h' = h.set tk (.map es') ∧ (execOp a.eval o).run P w = .ok .skip (mapWorld w l.b (.map xs ck)) ∧ EL ι es' xs.toList ∧ l.b < w.heap.size := by
  have rx := toX_sound ra hx
  have rk := toX_sound ra hkk
  have rv := toX_sound ra hvv
  have K := keyK_ok hk
  unfold AH.mup at hc
  split at hc
  · rename_i tk htk
    rw [htk] at rx
    simp only [VRel] at rx
    obtain ⟨l, hl, hp⟩ := rx
    split at hc
    · rename_i es hm
      obtain ⟨l', xs, ck, h1, h2, h3⟩ := map_of rw' hm
      rw [hl] at h1; cases h1
      have hlt : l.b < w.heap.size := (Array.getElem?_eq_some_iff.1 h2).1
      split at hc
      · rename_i hq
        simp only [Option.map_eq_some_iff] at hc
        obtain ⟨es', hput, rfl⟩ := hc
        have hck := check_run K hq rk false w
        unfold mput at hput
        split at hput
        · rename_i j v' hf
          cases hput
          obtain ⟨r', q1, q2⟩ := find_run K rk hq w h3 hf
          obtain ⟨j', x', k', rfl, e0, e3, e4, e5, hsame⟩ := q2
          obtain rfl : j' = j := by omega
          obtain ⟨y, hy, hyk, _⟩ := h3.get e3
          have hxy : x' = y := by rw [hy] at e4; cases e4; rfl
          subst hxy
          obtain ⟨hkeq, hsb⟩ := kq_eq K hsame rk hyk
          have hxj : xs[j']? = some x' := by simpa using e4
          have hst : (Instr.keyThatStays x'.key (a.eval k)).run P w = .ok (a.eval k) w := by
            rw [← hkeq]
            simp [Instr.keyThatStays, hsb]
          have hset : ∀ o, (setObj l.b o).run P w = .ok () (mapWorld w l.b o) := fun o => MapKept.run_setObj_map o h2
          refine ⟨tk, l, es, _, xs.modify j' fun e => { e with key := a.eval k, val := a.eval v }, ck, hm, hl, rfl, ?_, ?_, hlt⟩
          · rcases ho with ho | ho <;> simp [execOp, ho, hp, Instr.mapUpdate, und_run ht, MapKept.run_getObj_map h2, hck, q1, hxj, hst, hset, Result.andThen]
          · have : (xs.modify j' fun e => { e with key := a.eval k, val := a.eval v }).toList = xs.toList.set j' { x' with key := a.eval k, val := a.eval v } := by
              refine List.ext_getElem? fun i => ?_
              rw [List.getElem?_set]
              simp only [Array.getElem?_toList, Array.getElem?_modify]
              by_cases e : j' = i
              · subst e
                have hlt' : j' < xs.size := (Array.getElem?_eq_some_iff.1 hxj).1
                rw [Array.getElem?_eq_getElem hlt'] at hxj
                simp [hlt', Option.some.inj hxj]
              · simp [e]
            rw [this]
            exact h3.set rk rv
        · rename_i hf
          cases hput
          obtain ⟨r', q1, q2⟩ := find_run K rk hq w h3 hf
          simp only [FRel] at q2
          subst q2
          refine ⟨tk, l, es, _, xs.push { key := a.eval k, val := a.eval v, born := ck }, ck + 1, hm, hl, rfl, ?_, ?_, hlt⟩
          · have hset : ∀ o, (setObj l.b o).run P w = .ok () (mapWorld w l.b o) := fun o => MapKept.run_setObj_map o h2
            rcases ho with ho | ho <;> simp [execOp, ho, hp, Instr.mapUpdate, und_run ht, MapKept.run_getObj_map h2, hck, q1, hset, Result.andThen]
          · rw [Array.toList_push]
            exact h3.snoc rk rv
        · cases hput
      · cases hc
    · cases hc
  · cases hc
end
end Go.Am
