/- The abstract machine: rows that are filled; new blocks. -/
import Derived.Test.YtbhkbaapfioijaaAmD
import Derived.IntWalk
set_option linter.unusedVariables false
set_option linter.unusedSimpArgs false
namespace Go.Am
section
variable {P : Program} {N : Nat} {ι : Inj} {st : St} {a : Act} {h : AH} {w : World}

theorem fold_set (off : Nat) : ∀ (l : List Value) (k : Nat) (cs : Array Value), off + k + l.length ≤ cs.size →
    ((l.zipIdx k).foldl (fun (cs : Array Value) (p : Value × Nat) => cs.setIfInBounds (off + p.2) p.1) cs).toList = cs.toList.take (off + k) ++ (l ++ cs.toList.drop (off + k + l.length))
  | [], k, cs, _ => by simp
  | v :: l, k, cs, hle => by
    simp only [List.length_cons] at hle
    simp only [List.zipIdx_cons, List.foldl_cons]
    rw [fold_set off l (k + 1) _ (by simp; omega)]
    have hlt : off + k < cs.toList.length := by simp; omega
    simp only [Array.toList_setIfInBounds, List.length_cons]
    rw [show off + (k + 1) = (off + k) + 1 by omega]
    rw [List.take_add_one, List.take_set_of_le (by omega), List.drop_set_of_lt (by omega)]
    rw [List.getElem?_set_self hlt]
    simp only [Option.toList_some, List.append_assoc, List.cons_append, List.nil_append]
    rw [show off + k + 1 + l.length = off + k + (l.length + 1) by omega]

theorem fill_sound (place : Nat → Option (Nat × Nat)) : ∀ (ps : List (Nat × Value)) (qs : List (Nat × Nat × AX)) (cs : List AV) (vs : Array Value) (cs' : List AV),
    (∀ (i : Nat) (p : Nat × Value) (q : Nat × Nat × AX), ps[i]? = some p → qs[i]? = some q → place p.1 = some (q.1, q.2.1) ∧ VRel ι (q.2.2.val st) p.2) → ps.length = qs.length →
    VRels ι cs vs.toList → afill (AX.val st) cs qs = some cs' → ∃ vs' : Array Value, Instr.fill place vs ps = some vs' ∧ VRels ι cs' vs'.toList
  | [], [], cs, vs, cs', _, _, hr, hf => by simp only [afill, Option.some.injEq] at hf; subst hf; exact ⟨vs, by simp [Instr.fill], hr⟩
  | [], q :: qs, _, _, _, _, hl, _, _ => by simp at hl
  | p :: ps, [], _, _, _, _, hl, _, _ => by simp at hl
  | (i, v) :: ps, (off, n, x) :: qs, cs, vs, cs', hp, hl, hr, hf => by
    obtain ⟨h1, h2⟩ := hp 0 _ _ rfl rfl
    simp only at h1 h2
    simp only [afill] at hf
    split at hf
    · rename_i hc
      obtain ⟨hk, hn, hle⟩ := hc
      have hcells := h2.cells hk
      have hlen := hcells.length
      have hlr := hr.length
      simp only [Array.length_toList] at hlen hlr
      have e1 : ((x.val st).cells.length) = v.cells.size := hlen
      have hsz : v.cells.size = n := by omega
      have key := fold_set off v.cells.toList 0 vs (by simp; omega)
      simp only [Nat.add_zero, Array.length_toList] at key
      have harr : (v.cells.zipIdx.foldl (fun (cs : Array Value) (p : Value × Nat) => cs.setIfInBounds (off + p.2) p.1) vs).toList = vs.toList.take off ++ (v.cells.toList ++ vs.toList.drop (off + v.cells.size)) := by
        rw [← key, ← Array.foldl_toList]
        simp
      have hr' : VRels ι (cs.take off ++ ((x.val st).cells ++ cs.drop (off + n))) (v.cells.zipIdx.foldl (fun (cs : Array Value) (p : Value × Nat) => cs.setIfInBounds (off + p.2) p.1) vs).toList := by
        rw [harr, ← hsz]
        exact (hr.take off).append (hcells.append (hr.drop _))
      obtain ⟨vs', h3, h4⟩ := fill_sound place ps qs _ _ cs' (fun j p q hp' hq' => hp (j + 1) p q (by simpa using hp') (by simpa using hq')) (by simpa using hl) hr' hf
      refine ⟨vs', ?_, h4⟩
      simp only [Instr.fill, h1]
      rw [if_neg]
      · exact h3
      · simp
        omega
    · cases hf

theorem zeroOf_run {t : TypeId} {z : List AV} (hz : zeroOf P t = some z) (ι : Inj) (w : World) : ∃ v, (zeroValue t).run P w = .ok v w ∧ VRels ι z v.cells.toList := by
  unfold zeroOf at hz
  simp only [Option.bind_eq_bind, Option.bind_eq_some_iff, Option.some.injEq] at hz
  obtain ⟨i, hi, v, hv, x, hx, rfl⟩ := hz
  refine ⟨v, by simp [zeroValue, typeInfo, hi, hv], ?_⟩
  have hr := absV_sound (ι := ι) hx
  refine hr.cells ?_
  cases x <;> first | rfl | skip
  all_goals
    unfold absV at hx
    split at hx
    · simp at hx
    · unfold absV1 at hx
      split at hx <;> simp at hx

/-- the parts of a composite, as they are read -/
theorem parts_sound (ra : ARel N ι st a) {f : Nat × Operand → Option (Nat × Nat × AX)} (place : Nat → Option (Nat × Nat))
    (hf : ∀ p q, f p = some q → place p.1 = some (q.1, q.2.1) ∧ toX p.2 = some q.2.2) : ∀ {ps : List (Nat × Operand)} {qs : List (Nat × Nat × AX)}, ps.mapM f = some qs →
    (∀ (i : Nat) (p : Nat × Value) (q : Nat × Nat × AX), (ps.map fun (p : Nat × Operand) => (p.1, a.eval p.2))[i]? = some p → qs[i]? = some q → place p.1 = some (q.1, q.2.1) ∧ VRel ι (q.2.2.val st) p.2)
  | [], qs, h, i, p, q, hp, _ => by simp at hp
  | x :: xs, qs, h, i, p, q, hp, hq => by
    simp only [List.mapM_cons, Option.pure_def, Option.bind_eq_bind, Option.bind_eq_some_iff, Option.some.injEq] at h
    obtain ⟨y, hy, ys, hys, rfl⟩ := h
    cases i with
    | zero =>
      simp at hp hq
      subst hp; subst hq
      obtain ⟨h1, h2⟩ := hf _ _ hy
      exact ⟨h1, toX_sound ra h2⟩
    | succ i =>
      simp at hp hq
      exact parts_sound ra place hf hys i p q (by simpa using hp) hq

theorem sound_bld_struct (ra : ARel N ι st a) {o : Oper} {t : TypeId} {parts : Array (Nat × Operand)} (ho : o.op = .build t parts) {fs : Array Field} (hs : P.underlying t = some (.struct fs)) {z : List AV} (hz : zeroOf P t = some z)
    (hall : ∀ fl ∈ fs.toList, (szOf P fl.type).isSome) {qs : List (Nat × Nat × AX)}
    (hq : parts.toList.mapM (fun (p : Nat × Operand) => do let fl ← fs[p.1]?; some (fl.offset, ← szOf P fl.type, ← toX p.2)) = some qs) : Sound P ι st a h w o (.bld z qs) := by
  intro v hv
  simp only [AOp.ev, Option.map_eq_some_iff] at hv
  obtain ⟨cs, hcs, rfl⟩ := hv
  obtain ⟨zv, hzr, hzz⟩ := zeroOf_run hz ι w
  have hmap : ∀ (l : List Field) (acc : Array (Nat × Nat)), (∀ fl ∈ l, (szOf P fl.type).isSome) →
      (l.mapM fun (f : Field) => (do pure (f.offset, ← sizeOf f.type) : Sem (Nat × Nat))).run P w = .ok (l.map fun f => (f.offset, (szOf P f.type).getD 0)) w := by
    intro l
    induction l with
    | nil => intro _ _; rfl
    | cons f l ih =>
      intro acc hl
      obtain ⟨n, hn⟩ := Option.isSome_iff_exists.1 (hl f (by simp))
      have := ih acc fun g hg => hl g (by simp [hg])
      simp only [List.mapM_cons, Sem.run_bind, szOf_run hn, Result.andThen_ok, Sem.run_pure, this, List.map_cons, hn, Option.getD_some]
  let places : Array (Nat × Nat) := (fs.toList.map fun f => (f.offset, (szOf P f.type).getD 0)).toArray
  have hpl : (fs.mapM fun (f : Field) => (do pure (f.offset, ← sizeOf f.type) : Sem (Nat × Nat))).run P w = .ok places w := by
    rw [Array.mapM_eq_mapM_toList]
    simp only [Sem.run_map, hmap fs.toList #[] hall, Result.andThen_ok]
    rfl
  have hp := parts_sound ra (places[·]?) (f := fun (p : Nat × Operand) => do let fl ← fs[p.1]?; some (fl.offset, ← szOf P fl.type, ← toX p.2)) (fun p q hpq => by
    simp only [Option.bind_eq_bind, Option.bind_eq_some_iff, Option.some.injEq] at hpq
    obtain ⟨fl, hfl, n, hn, x, hx, rfl⟩ := hpq
    refine ⟨?_, hx⟩
    simp [places, hfl, hn]) hq
  have hlen := mapM_length hq
  obtain ⟨vs', h1, h2⟩ := fill_sound (places[·]?) (parts.toList.map fun (p : Nat × Operand) => (p.1, a.eval p.2)) qs z zv.cells cs hp (by simp [hlen]) hzz hcs
  refine ⟨.agg vs', ?_, ?_⟩
  · simp only [execOp, ho, Instr.build, Sem.run_bind, hzr, Result.andThen_ok, und_run hs, hpl]
    have e : (parts.map fun (x : Nat × Operand) => (x.1, a.eval x.2)).toList = parts.toList.map fun (p : Nat × Operand) => (p.1, a.eval p.2) := by simp
    rw [e, h1]
    rfl
  · simp only [VRel]
    exact ⟨vs', rfl, h2⟩

theorem sound_bld_array (ra : ARel N ι st a) {o : Oper} {t : TypeId} {parts : Array (Nat × Operand)} (ho : o.op = .build t parts) {n : Nat} {e : TypeId} (hs : P.underlying t = some (.array n e)) {z : List AV} (hz : zeroOf P t = some z)
    {k : Nat} (hk : szOf P e = some k) {qs : List (Nat × Nat × AX)}
    (hq : parts.toList.mapM (fun (p : Nat × Operand) => do some (p.1 * k, k, ← toX p.2)) = some qs) : Sound P ι st a h w o (.bld z qs) := by
  intro v hv
  simp only [AOp.ev, Option.map_eq_some_iff] at hv
  obtain ⟨cs, hcs, rfl⟩ := hv
  obtain ⟨zv, hzr, hzz⟩ := zeroOf_run hz ι w
  have hp := parts_sound ra (fun i => some (i * k, k)) (f := fun (p : Nat × Operand) => do some (p.1 * k, k, ← toX p.2)) (fun p q hpq => by
    simp only [Option.bind_eq_bind, Option.bind_eq_some_iff, Option.some.injEq] at hpq
    obtain ⟨x, hx, rfl⟩ := hpq
    exact ⟨rfl, hx⟩) hq
  have hlen := mapM_length hq
  obtain ⟨vs', h1, h2⟩ := fill_sound (fun i => some (i * k, k)) (parts.toList.map fun (p : Nat × Operand) => (p.1, a.eval p.2)) qs z zv.cells cs hp (by simp [hlen]) hzz hcs
  refine ⟨.agg vs', ?_, ?_⟩
  · simp only [execOp, ho, Instr.build, Sem.run_bind, hzr, Result.andThen_ok, und_run hs, szOf_run hk]
    have e : (parts.map fun (x : Nat × Operand) => (x.1, a.eval x.2)).toList = parts.toList.map fun (p : Nat × Operand) => (p.1, a.eval p.2) := by simp
    rw [e, h1]
    rfl
  · simp only [VRel]
    exact ⟨vs', rfl, h2⟩

/-- What an operation owes that makes a new block. -/
def SoundAl (P : Program) (ι : Inj) (st : St) (a : Act) (w : World) (o : Oper) (ao : AOp) : Prop :=
  ∀ tok v cs, ao.al (AX.val st) tok = some (v, cs) → ∃ u vs e, (execOp a.eval o).run P w = .ok (.value u) (w.alloc (.cells vs e)) ∧ cs.length ≤ vs.size ∧
    (∀ (i : Nat) (x : AV), cs[i]? = some x → ∃ y, vs[i]? = some y ∧ VRel ι x y) ∧ ∀ ι' : Inj, ι' tok = some ⟨w.heap.size, 0, vs.size⟩ → VRel ι' v u

theorem sound_box (ra : ARel N ι st a) {o : Oper} {t : TypeId} {x : Operand} (ho : o.op = .box t x) {ax : AX} (hx : toX x = some ax) : SoundAl P ι st a w o (.box ax) := by
  intro tok v cs hv
  simp only [AOp.al] at hv
  split at hv
  · rename_i hk
    cases hv
    have hc := (toX_sound ra hx).cells hk
    refine ⟨.pointer (some ⟨w.heap.size, 0, none⟩), (a.eval x).cells, t, ?_, ?_, ?_, ?_⟩
    · simp [execOp, ho, Instr.box, newVar, newRow]
    · have := hc.length; simp at this; omega
    · intro i y hy; obtain ⟨u, h1, h2⟩ := hc.get hy; exact ⟨u, by simpa using h1, h2⟩
    · intro ι' hι; simp only [VRel]; exact ⟨_, hι, rfl⟩
  · cases hv

theorem sound_alloc {o : Oper} {t : TypeId} (ho : o.op = .alloc t) {z : List AV} (hz : zeroOf P t = some z) : SoundAl P ι st a w o (.alloc z) := by
  intro tok v cs hv
  simp only [AOp.al, Option.some.injEq, Prod.mk.injEq] at hv
  obtain ⟨rfl, rfl⟩ := hv
  obtain ⟨zv, hzr, hzz⟩ := zeroOf_run hz ι w
  refine ⟨.pointer (some ⟨w.heap.size, 0, none⟩), zv.cells, t, ?_, ?_, ?_, ?_⟩
  · simp [execOp, ho, Instr.alloc, hzr, newVar, newRow]
  · have := hzz.length; simp at this; omega
  · intro i y hy; obtain ⟨u, h1, h2⟩ := hzz.get hy; exact ⟨u, by simpa using h1, h2⟩
  · intro ι' hι; simp only [VRel]; exact ⟨_, hι, rfl⟩

theorem VRels_replicate {z : List AV} {zv : List Value} (hz : VRels ι z zv) (n : Nat) : VRels ι (List.replicate n z).flatten (List.replicate n zv).flatten := by
  induction n with
  | zero => simp [VRels]
  | succ n ih => simp only [List.replicate_succ, List.flatten_cons]; exact hz.append ih

/-- so many zeros, as the model lays them -/
theorem zeros_eq (z : Array Value) (n : Nat) : ((Array.range (n * z.size)).map (fun i => z[i % z.size]!)).toList = (List.replicate n z.toList).flatten := by
  simp only [Array.toList_map, Array.toList_range]
  induction n with
  | zero => simp
  | succ n ih =>
    rw [Nat.succ_mul, List.range_add, List.map_append, ih, List.replicate_succ', List.flatten_append, List.map_map]
    congr 1
    simp only [List.flatten_cons, List.flatten_nil, List.append_nil]
    apply List.ext_getElem?
    intro i
    simp only [List.getElem?_map]
    by_cases hi : i < z.size
    · rw [List.getElem?_range hi]
      simp [Nat.mod_eq_of_lt hi, hi]
    · rw [List.getElem?_eq_none (by simp; omega)]
      simp; omega

theorem sound_bsl (ra : ARel N ι st a) {o : Oper} {t : TypeId} {n : Nat} {parts : Array (Nat × Operand)} (ho : o.op = .buildSlice t n parts) {e : TypeId} (hs : P.underlying t = some (.slice e)) {z : List AV} (hz : zeroOf P e = some z)
    {k : Nat} (hk : szOf P e = some k) (hk0 : k ≠ 0) (hzk : z.length = k) (hn : n * k ≤ 16777216) {qs : List (Nat × Nat × AX)}
    (hq : parts.toList.mapM (fun (p : Nat × Operand) => do some (p.1 * k, k, ← toX p.2)) = some qs) : SoundAl P ι st a w o (.bsl k (List.replicate n z).flatten qs) := by
  intro tok v cs hv
  simp only [AOp.al, Option.map_eq_some_iff, Prod.mk.injEq] at hv
  obtain ⟨cs', hcs, rfl, rfl⟩ := hv
  obtain ⟨zv, hzr, hzz⟩ := zeroOf_run hz ι w
  have hzl := hzz.length
  simp only [Array.length_toList] at hzl
  have hp := parts_sound ra (fun i => some (i * k, k)) (f := fun (p : Nat × Operand) => do some (p.1 * k, k, ← toX p.2)) (fun p q hpq => by
    simp only [Option.bind_eq_bind, Option.bind_eq_some_iff, Option.some.injEq] at hpq
    obtain ⟨x, hx, rfl⟩ := hpq
    exact ⟨rfl, hx⟩) hq
  have hlen := mapM_length hq
  have hrow : VRels ι (List.replicate n z).flatten ((Array.range (n * k)).map (fun i => zv.cells[i % zv.cells.size]!)).toList := by
    have := zeros_eq zv.cells n
    rw [show zv.cells.size = k by omega] at this ⊢
    rw [this]
    exact VRels_replicate hzz n
  obtain ⟨vs', h1, h2⟩ := fill_sound (fun i => some (i * k, k)) (parts.toList.map fun (p : Nat × Operand) => (p.1, a.eval p.2)) qs _ _ cs' hp (by simp [hlen]) hrow hcs
  have hcl : cs'.length = vs'.size := by have := h2.length; simpa using this
  have hzf : (List.replicate n z).flatten.length / k = n := by
    simp [hzk]
    exact Nat.mul_div_cancel _ (by omega)
  have hsz : vs'.size = n * k := by
    have hl : ∀ (qs : List (Nat × Nat × AX)) (c c' : List AV), afill (AX.val st) c qs = some c' → c'.length = c.length := by
      intro qs
      induction qs with
      | nil => intro c c' h; simp only [afill, Option.some.injEq] at h; rw [h]
      | cons q qs ih =>
        intro c c' h
        obtain ⟨off, m, x⟩ := q
        simp only [afill] at h
        split at h
        · rename_i hc
          rw [ih _ _ h]
          simp
          omega
        · cases h
    rw [← hcl, hl _ _ _ hcs]
    simp [hzk]
  have hrun : (execOp a.eval o).run P w = .ok (.value (.slice (some ⟨w.heap.size, 0, none⟩) n n)) (w.alloc (.cells vs' e)) := by
    have e1 : (parts.map fun (x : Nat × Operand) => (x.1, a.eval x.2)).toList = parts.toList.map fun (p : Nat × Operand) => (p.1, a.eval p.2) := by simp
    have h24 : ¬ n * k > 2 ^ 24 := by simp; omega
    simp only [execOp, ho, Instr.buildSlice, Sem.run_bind, und_run hs, Result.andThen_ok, szOf_run hk]
    rw [if_neg h24]
    simp only [pure_bind]
    by_cases h0 : n * k = 0
    · have hn0 : n = 0 := by rcases Nat.mul_eq_zero.1 h0 with h | h; exact h; exact absurd h hk0
      subst hn0
      simp only [Nat.zero_mul] at h1 ⊢
      simp only [if_true, Sem.run_pure]
      rw [e1]
      have : (Array.map (fun i => (#[] : Array Value)[i % (#[] : Array Value).size]!) (Array.range 0)) = (Array.map (fun i => zv.cells[i % zv.cells.size]!) (Array.range 0)) := by simp
      rw [this, h1]
      rfl
    · simp only [if_neg h0, Sem.run_bind, hzr, Result.andThen_ok, Sem.run_pure]
      rw [e1, h1]
      rfl
  refine ⟨_, vs', e, hrun, by omega, ?_, ?_⟩
  · intro i y hy; obtain ⟨u, h3, h4⟩ := h2.get hy; exact ⟨u, by simpa using h3, h4⟩
  · intro ι' hι
    by_cases h0 : (List.replicate n z).flatten.length = 0
    · rw [if_pos h0]
      have hn0 : n = 0 := by
        have : (List.replicate n z).flatten.length = n * k := by simp [hzk]
        rw [this] at h0
        rcases Nat.mul_eq_zero.1 h0 with h | h
        · exact h
        · exact absurd h hk0
      subst hn0
      simp only [VRel]
      exact .inl ⟨trivial, _, rfl⟩
    · rw [if_neg h0, if_neg hk0, hzf]
      simp only [VRel]
      exact .inr ⟨_, n, hι, rfl, Nat.le_refl _, .inr (by simp; omega)⟩

theorem sound_mks (ra : ARel N ι st a) {o : Oper} {t : TypeId} {x y : Operand} (ho : o.op = .makeSlice t x y) {e : TypeId} (hs : P.underlying t = some (.slice e)) {z : List AV} (hz : zeroOf P e = some z)
    {k b : Nat} (hk : szOf P e = some k) (hk0 : k ≠ 0) (hzk : z.length = k) (hb : (P.info? e).map (·.bytes) = some b) {ax ay : AX} (hx : toX x = some ax) (hy : toX y = some ay) :
    SoundAl P ι st a w o (.mks k b z ax ay) := by
  intro tok v cs hv
  have rx := toX_sound ra hx
  have ry := toX_sound ra hy
  simp only [AOp.al] at hv
  split at hv
  · rename_i n c h1 h2
    rw [h1] at rx; rw [h2] at ry
    simp only [VRel] at rx ry
    split at hv
    · rename_i hc
      obtain ⟨hn0, hnc, hc48, hcap⟩ := hc
      cases hv
      obtain ⟨zv, hzr, hzz⟩ := zeroOf_run hz ι w
      have hzl := hzz.length
      simp only [Array.length_toList] at hzl
      simp only [Option.map_eq_some_iff] at hb
      obtain ⟨ti, hti, hbb⟩ := hb
      have hwn : IntKind.i64.wrap n = n := IntWalk.i64_in n ⟨by omega, by omega⟩
      have hwc : IntKind.i64.wrap c = c := IntWalk.i64_in c ⟨by omega, by omega⟩
      have hti' : (typeInfo e).run P w = .ok ti w := by simp [typeInfo, hti]
      have hlarge : ¬ (b : Int) * c > 2 ^ 48 := by simp; omega
      have hlt : ¬ c < 0 := by omega
      have hlt2 : ¬ n < 0 := by omega
      have hlt3 : ¬ n > c := by omega
      let vs : Array Value := (Array.range (c.toNat * k)).map (fun i => zv.cells[i % zv.cells.size]!)
      have hrun : (execOp a.eval o).run P w = .ok (.value (.slice (some ⟨w.heap.size, 0, none⟩) n.toNat c.toNat)) (w.alloc (.cells vs e)) := by
        simp only [execOp, ho, Instr.makeSlice, Sem.run_bind, und_run hs, Result.andThen_ok, asInt, asIntOf, rx, ry, Sem.run_pure, hti', hwn, hwc, hbb]
        rw [if_neg (by simp [hlt, hlt2, hlt3]; simpa using hlarge)]
        simp only [Sem.run_bind, run_askRoom, Result.andThen_ok, szOf_run hk, pure_bind]
        by_cases h0 : c.toNat * k = 0
        · simp only [h0, if_true, Sem.run_pure, Result.andThen_ok]
          have : vs = Array.map (fun i => (#[] : Array Value)[i % (#[] : Array Value).size]!) (Array.range 0) := by simp [vs, h0]
          simp [newRow, this]
        · simp only [if_neg h0, Sem.run_bind, hzr, Result.andThen_ok, Sem.run_pure]
          simp [newRow, vs]
      have hrow : vs.toList = (List.replicate c.toNat zv.cells.toList).flatten := by
        have := zeros_eq zv.cells c.toNat
        rw [show zv.cells.size = k by omega] at this
        simp only [vs]
        rw [show zv.cells.size = k by omega]
        exact this
      have hcn : n.toNat ≤ c.toNat := by omega
      have hrel : VRels ι (List.replicate c.toNat z).flatten vs.toList := by rw [hrow]; exact VRels_replicate hzz _
      have hsplit : (List.replicate c.toNat z).flatten = (List.replicate n.toNat z).flatten ++ (List.replicate (c.toNat - n.toNat) z).flatten := by
        rw [← List.flatten_append, List.replicate_append_replicate]
        congr 2
        omega
      have hvs : vs.size = c.toNat * k := by simp [vs]
      refine ⟨_, vs, e, hrun, ?_, ?_, ?_⟩
      · simp [hzk, hvs]; exact Nat.mul_le_mul_right k hcn
      · intro i q hq
        have : (List.replicate c.toNat z).flatten[i]? = some q := by
          rw [hsplit, List.getElem?_append_left (List.getElem?_eq_some_iff.1 hq).1]
          exact hq
        obtain ⟨u, h3, h4⟩ := hrel.get this
        exact ⟨u, by simpa using h3, h4⟩
      · intro ι' hι
        simp only [VRel]
        exact .inr ⟨_, c.toNat, hι, rfl, hcn, .inr (by simp [hvs])⟩
    · cases hv
  · cases hv
end
end Go.Am
