/- The abstract machine: operations that yield a value are sound. -/
import Derived.Test.YtbhkbaapfioijaaAmB
set_option linter.unusedVariables false
set_option linter.unusedSimpArgs false
namespace Go.Am

theorem absV1_sound {ι : Inj} {v : Value} {a : AV} (h : absV1 v = some a) : VRel ι a v := by
  unfold absV1 at h
  split at h <;> simp only [Option.some.injEq, reduceCtorEq] at h <;> subst h <;> simp [VRel]

theorem absV_sound {ι : Inj} {v : Value} {a : AV} (h : absV v = some a) : VRel ι a v := by
  unfold absV at h
  split at h
  · rename_i cs
    simp only [Option.map_eq_some_iff] at h
    obtain ⟨l, hl, rfl⟩ := h
    simp only [VRel]
    refine ⟨cs, rfl, ?_⟩
    generalize cs.toList = xs at hl
    induction xs generalizing l with
    | nil => simp at hl; subst hl; simp [VRels]
    | cons x xs ih =>
      simp only [List.mapM_cons, Option.pure_def, Option.bind_eq_bind, Option.bind_eq_some_iff, Option.some.injEq] at hl
      obtain ⟨y, hy, ys, hys, rfl⟩ := hl
      simp only [VRels]
      exact ⟨x, xs, rfl, absV1_sound hy, ih ys hys⟩
  · exact absV1_sound h

theorem toX_sound {N : Nat} {ι : Inj} {st : St} {a : Act} (r : ARel N ι st a) {x : Operand} {ax : AX} (h : toX x = some ax) : VRel ι (ax.val st) (a.eval x) := by
  cases x with
  | tmp t => simp [toX] at h; subst h; exact r.slot t
  | const v =>
    simp only [toX, Option.map_eq_some_iff] at h
    obtain ⟨y, hy, rfl⟩ := h
    exact absV_sound hy
  | func f =>
    simp [toX] at h; subst h
    simp only [AX.val, VRel, Act.eval, VRels]
    exact ⟨#[], #[], rfl, rfl, rfl⟩
  | global g => simp [toX] at h

theorem mapM_length {α β : Type} {f : α → Option β} : ∀ {xs : List α} {ys : List β}, xs.mapM f = some ys → ys.length = xs.length
  | [], ys, h => by simp at h; subst h; rfl
  | x :: xs, ys, h => by
    simp only [List.mapM_cons, Option.pure_def, Option.bind_eq_bind, Option.bind_eq_some_iff, Option.some.injEq] at h
    obtain ⟨y, hy, zs, hzs, rfl⟩ := h
    simp [mapM_length hzs]

theorem toXs_sound {N : Nat} {ι : Inj} {st : St} {a : Act} (r : ARel N ι st a) : ∀ {xs : List Operand} {ys : List AX}, xs.mapM toX = some ys → VRels ι (ys.map (AX.val st)) (xs.map a.eval)
  | [], ys, h => by simp at h; subst h; simp [VRels]
  | x :: xs, ys, h => by
    simp only [List.mapM_cons, Option.pure_def, Option.bind_eq_bind, Option.bind_eq_some_iff, Option.some.injEq] at h
    obtain ⟨y, hy, zs, hzs, rfl⟩ := h
    simp only [List.map_cons, VRels]
    exact ⟨_, _, rfl, toX_sound r hy, toXs_sound r hzs⟩

theorem VRels.append {ι : Inj} : ∀ {as bs : List AV} {vs us : List Value}, VRels ι as vs → VRels ι bs us → VRels ι (as ++ bs) (vs ++ us)
  | [], _, _, _, h, k => by simp only [VRels] at h; subst h; exact k
  | a :: as, _, _, _, h, k => by
    simp only [VRels] at h
    obtain ⟨v, r, rfl, h1, h2⟩ := h
    simp only [List.cons_append, VRels]
    exact ⟨_, _, rfl, h1, VRels.append h2 k⟩
theorem VRels.length {ι : Inj} {as : List AV} {vs : List Value} (h : VRels ι as vs) : as.length = vs.length := (VRels_iff.1 h).1
theorem VRels.get {ι : Inj} {as : List AV} {vs : List Value} (h : VRels ι as vs) {i : Nat} {a : AV} (ha : as[i]? = some a) : ∃ v, vs[i]? = some v ∧ VRel ι a v := by
  obtain ⟨hl, hr⟩ := VRels_iff.1 h
  have hi : i < vs.length := by have := (List.getElem?_eq_some_iff.1 ha).1; omega
  exact ⟨vs[i], List.getElem?_eq_getElem hi, hr i a _ ha (List.getElem?_eq_getElem hi)⟩
theorem VRels.drop {ι : Inj} (n : Nat) {as : List AV} {vs : List Value} (h : VRels ι as vs) : VRels ι (as.drop n) (vs.drop n) := by
  obtain ⟨hl, hr⟩ := VRels_iff.1 h
  exact VRels_iff.2 ⟨by simp [hl], fun i a v ha hv => hr (n + i) a v (by simpa using ha) (by simpa using hv)⟩
theorem VRels.take {ι : Inj} (n : Nat) {as : List AV} {vs : List Value} (h : VRels ι as vs) : VRels ι (as.take n) (vs.take n) := by
  obtain ⟨hl, hr⟩ := VRels_iff.1 h
  refine VRels_iff.2 ⟨by simp [hl], fun i a v ha hv => ?_⟩
  rw [List.getElem?_take] at ha hv
  split at ha
  · rename_i hi; rw [if_pos hi] at hv; exact hr i a v ha hv
  · cases ha

section
variable {P : Program} {N : Nat} {ι : Inj} {st : St} {a : Act} {h : AH} {w : World}

theorem Addr.add_eq (b o n : Nat) : Addr.add ⟨b, o, none⟩ n = ⟨b, o + n, none⟩ := by
  unfold Addr.add
  split
  · rename_i h; subst h; rfl
  · rfl

theorem szOf_run {t : TypeId} {n : Nat} (hs : szOf P t = some n) (w : World) : (sizeOf t).run P w = .ok n w := by
  unfold szOf at hs
  simp only [Option.map_eq_some_iff] at hs
  obtain ⟨i, hi, rfl⟩ := hs
  simp [sizeOf, typeInfo, hi]
theorem und_run {t : TypeId} {d : TypeDesc} (hs : P.underlying t = some d) (w : World) : (underlying t).run P w = .ok d w := by
  simp [underlying, hs]
theorem agg_run {t : TypeId} {g : Bool} (hs : aggOf P t = some g) (w : World) : (isAgg t).run P w = .ok g w := by
  unfold aggOf at hs
  simp only [Option.map_eq_some_iff] at hs
  obtain ⟨d, hd, rfl⟩ := hs
  simp only [isAgg, Sem.run_bind, und_run hd, Result.andThen_ok]
  cases d <;> rfl
theorem ldOf_spec {t : TypeId} {n : Option Nat} (hs : ldOf P t = some n) : ∃ g k, aggOf P t = some g ∧ szOf P t = some k ∧ n = (if g then some k else none) ∧ (g = false → k = 1) := by
  unfold ldOf at hs
  simp only [Option.bind_eq_bind, Option.bind_eq_some_iff] at hs
  obtain ⟨g, hg, k, hk, h⟩ := hs
  refine ⟨g, k, hg, hk, ?_⟩
  cases g
  · simp only [Bool.false_eq_true, if_false] at h ⊢
    split at h
    · rename_i h1; cases h; exact ⟨rfl, fun _ => h1⟩
    · cases h
  · simp only [if_true, Option.some.injEq] at h
    exact ⟨h.symm, fun h => by cases h⟩

/-- A cell of a token's row, in the world. -/
theorem cell_of_row (rw : WRel ι h w) {t : Nat} {cs : List AV} (hr : h.row t = some cs) {i : Nat} {x : AV} (hx : cs[i]? = some x) {l : Loc} (hl : ι t = some l) :
    ∃ v, w.cell? ⟨l.b, l.sh + i, none⟩ = some v ∧ VRel ι x v := by
  unfold AH.row at hr
  split at hr
  · rename_i wr cs' hm
    simp only [Option.some.injEq] at hr
    subst hr
    have hb := (rw.blk t _ hm).2
    simp only [BRel] at hb
    rcases hb with ⟨he, _⟩ | ⟨l', vs, e, fz, hl', hh, _, _, _, hc⟩
    · subst he; simp at hx
    · rw [hl] at hl'; cases hl'
      obtain ⟨v, hv, h2⟩ := hc i x hx
      exact ⟨v, by simp [World.cell?, hh, hv], h2⟩
  · rename_i cs' hm
    simp only [Option.some.injEq] at hr
    subst hr
    have hb := (rw.blk t _ hm).2
    simp only [BRel] at hb
    obtain ⟨l', vs, e, hl', hh, _, _, hc⟩ := hb
    rw [hl] at hl'; cases hl'
    obtain ⟨v, hv, h2⟩ := hc i x hx
    exact ⟨v, by simp [World.cell?, hh, hv], h2⟩
  · cases hr

/-! ### What is never written again -/
/-- cells that lie in a row of values from a place on -/
def Lies (ι : Inj) (cs : List AV) (xs : Array Value) (s : Nat) : Prop := VRels ι cs ((xs.toList.drop s).take cs.length)
theorem Lies.drop {cs : List AV} {xs : Array Value} {s : Nat} (r : Lies ι cs xs s) (d : Nat) : Lies ι (cs.drop d) xs (s + d) := by
  have := VRels.drop d r
  unfold Lies
  rw [List.length_drop, ← List.drop_drop]
  rwa [List.drop_take] at this
theorem Lies.take {cs : List AV} {xs : Array Value} {s : Nat} (r : Lies ι cs xs s) (d : Nat) : Lies ι (cs.take d) xs s := by
  have := VRels.take d r
  unfold Lies
  rw [List.length_take]
  rwa [List.take_take] at this
theorem Lies.get {cs : List AV} {xs : Array Value} {s : Nat} (r : Lies ι cs xs s) {i : Nat} {x : AV} (hx : cs[i]? = some x) : ∃ v, xs[s + i]? = some v ∧ VRel ι x v := by
  obtain ⟨v, hv, h2⟩ := VRels.get r hx
  rw [List.getElem?_take] at hv
  split at hv
  · rw [List.getElem?_drop] at hv
    exact ⟨v, by simpa using hv, h2⟩
  · cases hv
theorem cell_of_phi (rw : WRel ι h w) {b s : Nat} {xs : Array Value} (hp : ι.φ b = some xs) {cs : List AV} (r : Lies ι cs xs s) {i : Nat} {x : AV} (hx : cs[i]? = some x) :
    ∃ v, w.cell? ⟨b, s + i, none⟩ = some v ∧ VRel ι x v := by
  obtain ⟨v, hv, h2⟩ := r.get hx
  obtain ⟨⟨e, fz, hh⟩, _⟩ := rw.phi b xs hp
  exact ⟨v, by simp [World.cell?, hh, hv], h2⟩
theorem loadCells_of_phi (rw : WRel ι h w) {b s : Nat} {xs : Array Value} (hp : ι.φ b = some xs) {cs : List AV} (r : Lies ι cs xs s) {o n : Nat} (hn : o + n ≤ cs.length) :
    ∃ vs : Array Value, (loadCells ⟨b, s + o, none⟩ n).run P w = .ok vs w ∧ VRels ι ((cs.drop o).take n) vs.toList := by
  have key : ∀ n i (acc : Array Value), o + i + n ≤ cs.length → ∃ us : List Value, (loadCellsFrom ⟨b, s + o, none⟩ i n acc).run P w = .ok (acc ++ us.toArray) w ∧ VRels ι ((cs.drop (o + i)).take n) us := by
    intro n
    induction n with
    | zero => intro i acc _; exact ⟨[], by simp [loadCellsFrom], by simp [VRels]⟩
    | succ n ih =>
      intro i acc hle
      have hlt : o + i < cs.length := by omega
      obtain ⟨v, hv, hr'⟩ := cell_of_phi rw hp r (List.getElem?_eq_getElem hlt)
      obtain ⟨us, h1, h2⟩ := ih (i + 1) (acc.push v) (by omega)
      refine ⟨v :: us, ?_, ?_⟩
      · simp only [loadCellsFrom, Sem.run_bind, run_load, Addr.add_eq]
        rw [show s + o + i = s + (o + i) by omega, hv]
        simp only [Result.andThen_ok]
        rw [h1]
        congr 1
        apply Array.ext'
        simp
      · rw [List.drop_eq_getElem_cons hlt]
        simp only [List.take_succ_cons, VRels]
        exact ⟨_, _, rfl, hr', by rw [show o + i + 1 = o + (i + 1) by omega]; exact h2⟩
  obtain ⟨us, h1, h2⟩ := key n 0 #[] (by omega)
  exact ⟨us.toArray, by simpa [loadCells] using h1, by simpa using h2⟩
theorem ld_phi (rw : WRel ι h w) {t : TypeId} {n : Option Nat} (hn : ldOf P t = some n) {b s o : Nat} {xs : Array Value} (hp : ι.φ b = some xs) {cs : List AV} (r : Lies ι cs xs s) {x : AV}
    (hx : rd cs o n = some x) : ∃ v, (loadVar t ⟨b, s + o, none⟩).run P w = .ok v w ∧ VRel ι x v := by
  obtain ⟨g, m, hg, hm, rfl, _⟩ := ldOf_spec hn
  cases g with
  | false =>
    have hx : cs[o]? = some x := hx
    obtain ⟨v, hv, h2⟩ := cell_of_phi rw hp r hx
    exact ⟨v, by simp [loadVar, agg_run hg, hv], h2⟩
  | true =>
    have hx : (if o + m ≤ cs.length then some (AV.ag ((cs.drop o).take m)) else none) = some x := hx
    split at hx
    · rename_i hle
      simp only [Option.some.injEq] at hx
      subst hx
      obtain ⟨vs, h1, h2⟩ := loadCells_of_phi (P := P) rw hp r hle
      refine ⟨.agg vs, by simp [loadVar, agg_run hg, szOf_run hm, h1], ?_⟩
      simp only [VRel]
      exact ⟨vs, rfl, h2⟩
    · cases hx

theorem loadCells_of_row (rw : WRel ι h w) {t : Nat} {cs : List AV} (hr : h.row t = some cs) {o n : Nat} (hn : o + n ≤ cs.length) {l : Loc} (hl : ι t = some l) :
    ∃ vs : Array Value, (loadCells ⟨l.b, l.sh + o, none⟩ n).run P w = .ok vs w ∧ VRels ι ((cs.drop o).take n) vs.toList := by
  have key : ∀ n i (acc : Array Value), o + i + n ≤ cs.length → ∃ us : List Value, (loadCellsFrom ⟨l.b, l.sh + o, none⟩ i n acc).run P w = .ok (acc ++ us.toArray) w ∧ VRels ι ((cs.drop (o + i)).take n) us := by
    intro n
    induction n with
    | zero => intro i acc _; exact ⟨[], by simp [loadCellsFrom], by simp [VRels]⟩
    | succ n ih =>
      intro i acc hle
      have hlt : o + i < cs.length := by omega
      obtain ⟨v, hv, hr'⟩ := cell_of_row rw hr (List.getElem?_eq_getElem hlt) hl
      obtain ⟨us, h1, h2⟩ := ih (i + 1) (acc.push v) (by omega)
      refine ⟨v :: us, ?_, ?_⟩
      · simp only [loadCellsFrom, Sem.run_bind, run_load, Addr.add_eq]
        rw [show l.sh + o + i = l.sh + (o + i) by omega, hv]
        simp only [Result.andThen_ok]
        rw [h1]
        congr 1
        apply Array.ext'
        simp
      · rw [List.drop_eq_getElem_cons hlt]
        simp only [List.take_succ_cons, VRels]
        exact ⟨_, _, rfl, hr', by rw [show o + i + 1 = o + (i + 1) by omega]; exact h2⟩
  obtain ⟨us, h1, h2⟩ := key n 0 #[] (by omega)
  exact ⟨us.toArray, by simpa [loadCells] using h1, by simpa using h2⟩

theorem ld_sound (rw : WRel ι h w) {t : TypeId} {n : Option Nat} (hn : ldOf P t = some n) {k o : Nat} {cs : List AV} (hr : h.row k = some cs) {x : AV}
    (hx : rd cs o n = some x) {l : Loc} (hl : ι k = some l) :
    ∃ v, (loadVar t ⟨l.b, l.sh + o, none⟩).run P w = .ok v w ∧ VRel ι x v := by
  obtain ⟨g, m, hg, hm, rfl, _⟩ := ldOf_spec hn
  cases g with
  | false =>
    have hx : cs[o]? = some x := hx
    obtain ⟨v, hv, h2⟩ := cell_of_row rw hr hx hl
    exact ⟨v, by simp [loadVar, agg_run hg, hv], h2⟩
  | true =>
    have hx : (if o + m ≤ cs.length then some (AV.ag ((cs.drop o).take m)) else none) = some x := hx
    split at hx
    · rename_i hle
      simp only [Option.some.injEq] at hx
      subst hx
      obtain ⟨vs, h1, h2⟩ := loadCells_of_row (P := P) rw hr hle hl
      refine ⟨.agg vs, by simp [loadVar, agg_run hg, szOf_run hm, h1], ?_⟩
      simp only [VRel]
      exact ⟨vs, rfl, h2⟩
    · cases hx

/-- What an operation owes that yields a value. -/
def Sound (P : Program) (ι : Inj) (st : St) (a : Act) (h : AH) (w : World) (o : Oper) (ao : AOp) : Prop :=
  ∀ v, ao.ev (AX.val st) h = some v → ∃ u, (execOp a.eval o).run P w = .ok (.value u) w ∧ VRel ι v u

theorem run_equalIn_bool (d : Nat) {t : TypeId} (hu : P.underlying t = some .bool) (p q : Bool) (w : World) : (Op.equalIn (d + 1) t (.bool p) (.bool q)).run P w = .ok (p == q) w := by
  simp [Op.equalIn, und_run hu]
theorem run_eql_bool {t : TypeId} (hu : P.underlying t = some .bool) (p q : Bool) (w : World) : (binOp .eql t (.bool p) (.bool q)).run P w = .ok (.bool (p == q)) w := by
  simp only [binOp]
  simp [Op.equal, Op.maxDepth, run_equalIn_bool 9999 hu]
theorem run_neq_bool {t : TypeId} (hu : P.underlying t = some .bool) (p q : Bool) (w : World) : (binOp .neq t (.bool p) (.bool q)).run P w = .ok (.bool (p != q)) w := by
  simp only [binOp]
  simp [Op.equal, Op.maxDepth, run_equalIn_bool 9999 hu, bne]

theorem sound_bin (ra : ARel N ι st a) {o : Oper} {op : BinOp} {xt yt : TypeId} {x y : Operand} (ho : o.op = .binOp op xt x y yt) {bt : Bool} {ax ay : AX}
    (hx : toX x = some ax) (hy : toX y = some ay) (hb : bt = true → P.underlying xt = some .bool) : Sound P ι st a h w o (.bin bt op ax ay) := by
  intro v hv
  have rx := toX_sound ra hx
  have ry := toX_sound ra hy
  simp only [AOp.ev] at hv
  generalize ax.val st = u at *
  generalize ay.val st = z at *
  simp only [execOp, ho]
  generalize a.eval x = vx at *
  generalize a.eval y = vy at *
  unfold abin at hv
  split at hv
  · -- integers
    rename_i k n k' m
    simp only [VRel] at rx ry
    subst rx; subst ry
    have hg : (eqGuard op xt x y (.int k n) (.int k' m)).run P w = .ok () w := by
      unfold eqGuard; split <;> rfl
    split at hv
    · rename_i hk
      have fin : ∃ u, (binOp op xt (.int k n) (.int k' m)).run P w = .ok u w ∧ VRel ι v u := by
        cases op <;> simp only [aint] at hv
        case shl =>
          split at hv
          · rename_i h0; cases hv
            refine ⟨.int k (k.wrap (n * 2 ^ (min m.toNat k.bits))), ?_, by simp only [VRel]⟩
            have h1 : ¬ m < 0 := by omega
            simp [binOp, Op.shift, h1]
          · cases hv
        case shr =>
          split at hv
          · rename_i h0; cases hv
            refine ⟨.int k (n.fdiv (2 ^ (min m.toNat k.bits))), ?_, by simp only [VRel]⟩
            have h1 : ¬ m < 0 := by omega
            simp [binOp, Op.shift, h1]
          · cases hv
        case quo =>
          split at hv
          · cases hv
          · rename_i h0; cases hv
            obtain rfl : k = k' := by simpa using hk
            exact ⟨.int k (k.wrap (n.tdiv m)), by simp [binOp, Op.intDiv, h0], by simp only [VRel]⟩
        case rem =>
          split at hv
          · cases hv
          · rename_i h0; cases hv
            obtain rfl : k = k' := by simpa using hk
            exact ⟨.int k (n.tmod m), by simp [binOp, Op.intDiv, h0], by simp only [VRel]⟩
        all_goals
          cases hv
          obtain rfl : k = k' := by simpa using hk
          exact ⟨_, by simp [binOp, Op.intArith, Op.intBits, Op.intCmp]; rfl, by simp [VRel, abits]⟩
      obtain ⟨u, h1, h2⟩ := fin
      exact ⟨u, by simp [hg, h1], h2⟩
    · cases hv
  · rename_i p q
    simp only [VRel] at rx ry
    subst rx; subst ry
    split at hv
    · rename_i ht
      have hg : (eqGuard op xt x y (.bool p) (.bool q)).run P w = .ok () w := by
        unfold eqGuard; split <;> rfl
      split at hv
      · cases hv
        exact ⟨.bool (p == q), by simp [hg, run_eql_bool (hb ht)], by simp only [VRel]⟩
      · cases hv
        exact ⟨.bool (p != q), by simp [hg, run_neq_bool (hb ht)], by simp only [VRel]⟩
      · cases hv
    · cases hv
  · cases hv
end
end Go.Am
