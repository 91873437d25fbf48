/- The abstract machine: stores and appends are sound. -/
import Derived.Test.YtbhkbaapfioijaaAmF
set_option linter.unusedVariables false
set_option linter.unusedSimpArgs false
namespace Go.Am
section
variable {P : Program} {N : Nat} {ι : Inj} {st : St} {a : Act} {h : AH} {w : World}

/-- What an operation owes that turns the world: its value, the heap behind it. -/
def Moves (P : Program) (ι : Inj) (h : AH) (w : World) (a : Act) (o : Oper) (nv : Value → Next) (r : AV) (h' : AH) (tok : Nat) : Prop :=
  ∃ u w' ι', (execOp a.eval o).run P w = .ok (nv u) w' ∧ ι.le ι' ∧ (∀ s, s ≠ tok → ι' s = ι s) ∧ VRel ι' r u ∧ WRel ι' h' w' ∧
    ∀ ι0 h0 w0, Ext ι0 h0 w0 ι h w → h0.nx ≤ tok → Ext ι0 h0 w0 ι' h' w'

theorem wrt_length {cs cs' : List AV} {o : Nat} {x : AV} {n : Option Nat} (hw : wrt cs o x n = some cs') : cs'.length = cs.length := by
  cases n with
  | none => simp only [wrt] at hw; split at hw <;> cases hw; simp
  | some n => simp only [wrt] at hw; split at hw <;> cases hw; simp; omega

theorem sto_moves (ra : ARel N ι st a) (rw' : WRel ι h w) {o : Oper} {t : TypeId} {x v : Operand} (ho : o.op = .store t x v) {n : Option Nat} (hn : ldOf P t = some n) {ax av : AX} (hx : toX x = some ax) (hv : toX v = some av)
    {h' : AH} (hs : h.sto n (ax.val st) (av.val st) = some h') (tok : Nat) : Moves P ι h w a o (fun _ => .skip) .un h' tok := by
  have rx := toX_sound ra hx
  have rv := toX_sound ra hv
  unfold AH.sto at hs
  split at hs
  · rename_i k off he
    rw [he] at rx
    simp only [VRel] at rx
    obtain ⟨l, hl, hp⟩ := rx
    split at hs
    · rename_i cs hm
      simp only [Option.map_eq_some_iff] at hs
      obtain ⟨cs', hw, rfl⟩ := hs
      have hb := (rw'.blk k _ hm).2
      simp only [BRel] at hb
      rcases hb with ⟨_, h2⟩ | ⟨l1, vs, e, fz, h1, h2, h3, h4, h5, h6⟩
      · rw [hl] at h2; cases h2
      rw [hl] at h1; cases h1
      have h5 := h5 (by trivial)
      subst h5
      obtain ⟨g, m, hg, hm', hnn, hg1⟩ := ldOf_spec hn
      -- the cells that are written
      have key : ∃ xs : List AV, (∀ y ∈ xs, y.one = true) ∧ VRels ι xs (a.eval v).cells.toList ∧ xs.length = m ∧ off + m ≤ cs.length ∧ cs' = cs.take off ++ (xs ++ cs.drop (off + m)) := by
        cases g with
        | false =>
          have : n = none := hnn
          subst this
          have hm1 := hg1 rfl
          subst hm1
          simp only [wrt] at hw
          split at hw
          · rename_i hc
            cases hw
            have h1c := rv.one hc.1
            have hcells : (a.eval v).cells = #[a.eval v] := by
              cases hq : a.eval v <;> simp [hq, Value.oneCell'] at h1c <;> rfl
            refine ⟨[av.val st], by simpa using hc.1, ?_, rfl, by omega, ?_⟩
            · rw [hcells]; simp only [VRels]; exact ⟨_, _, rfl, rv, rfl⟩
            · rw [List.set_eq_take_append_cons_drop, if_pos hc.2]; rfl
          · cases hw
        | true =>
          have : n = some m := hnn
          subst this
          simp only [wrt] at hw
          split at hw
          · rename_i hc
            cases hw
            obtain ⟨c1, c2, c3, c4⟩ := hc
            exact ⟨(av.val st).cells, fun y hy => List.all_eq_true.1 c2 y hy, rv.cells c1, c3, c4, rfl⟩
          · cases hw
      obtain ⟨xs, x1, x2, x3, x4, rfl⟩ := key
      have hxl := x2.length
      simp only [Array.length_toList] at hxl
      have hone : ∀ u ∈ (a.eval v).cells.toList, u.oneCell' = true := by
        intro u hu
        obtain ⟨i, hi, rfl⟩ := List.mem_iff_getElem.1 hu
        obtain ⟨hl', hr⟩ := VRels_iff.1 x2
        have hi' : i < xs.length := by omega
        exact (hr i xs[i] _ (List.getElem?_eq_getElem hi') (List.getElem?_eq_getElem hi)).one (x1 _ (List.getElem_mem hi'))
      have hst := run_storeCells_at P l.b (l.sh + off) e (a.eval v).cells.toList 0 vs w h2 (by simp; omega) hone
      simp only [Nat.add_zero] at hst
      let vs' : Array Value := (vs.toList.take (l.sh + off) ++ (a.eval v).cells.toList ++ vs.toList.drop (l.sh + off + (a.eval v).cells.toList.length)).toArray
      have hsz : vs'.size = vs.size := by simp [vs']; omega
      refine ⟨undef, w.setRow l.b vs', ι, ?_, Inj.le_refl _, fun _ _ => rfl, by simp [VRel], ?_, fun ι0 h0 w0 x _ => x.write hm hl vs'⟩
      · simp only [execOp, ho, Instr.storeAt, hp, Instr.sureAddr, storeVar, Sem.run_bind, Sem.run_pure, Result.andThen_ok, szOf_run hm']
        rw [if_neg (by omega)]
        simp only [Sem.run_bind, Sem.run_pure, Result.andThen_ok, pure_bind, hst]
        rfl
      · refine rw'.write hm hl h2 hsz (by simp; omega) fun i y hy => ?_
        simp only [vs', List.getElem?_toArray]
        rw [List.append_assoc]
        by_cases c1 : i < off
        · rw [List.getElem?_append_left (by simp; omega), List.getElem?_take_of_lt c1] at hy
          obtain ⟨u, hu, hr⟩ := h6 i y hy
          refine ⟨u, ?_, hr⟩
          rw [List.getElem?_append_left (by simp; omega), List.getElem?_take_of_lt (by omega)]
          simpa using hu
        · rw [List.getElem?_append_right (by simp; omega)] at hy
          have e1 : (cs.take off).length = off := by simp; omega
          rw [e1] at hy
          by_cases c2 : i - off < xs.length
          · rw [List.getElem?_append_left c2] at hy
            obtain ⟨u, hu, hr⟩ := x2.get hy
            refine ⟨u, ?_, hr⟩
            rw [List.getElem?_append_right (by simp; omega), List.getElem?_append_left (by simp; omega)]
            rw [← hu]; congr 1; simp; omega
          · rw [List.getElem?_append_right (by omega), List.getElem?_drop] at hy
            obtain ⟨u, hu, hr⟩ := h6 _ y hy
            refine ⟨u, ?_, hr⟩
            rw [List.getElem?_append_right (by simp; omega), List.getElem?_append_right (by simp; omega), List.getElem?_drop]
            rw [← Array.getElem?_toList] at hu
            rw [← hu]; congr 1; simp; omega
    · cases hs
  · cases hs

/-- the cells of a slice, as the model loads them -/
theorem elems_sound0 (rw' : WRel ι h w) {k t o m a2 : Nat} {ys : List AV} (he : h.elems k (.sl t o m a2) = some ys) {y : Value} (ry : VRel ι (.sl t o m a2) y) :
    ∃ us : List Value, (∀ (D : World), (∀ b, D.cell? b = w.cell? b) → (Builtin.firstCells k m y).run P D = .ok us.toArray D) ∧ VRels ι ys us ∧ ys.length = m * k ∧ (∀ D : World, (Builtin.lenOf y).run P D = .ok m D) := by
  simp only [AH.elems] at he
  simp only [VRel] at ry
  by_cases hm : m = 0
  · subst hm
    simp only [if_true, Option.some.injEq] at he
    subst he
    refine ⟨[], fun D _ => ?_, by simp [VRels], by simp, ?_⟩
    · rcases ry with ⟨_, x, rfl⟩ | ⟨l, cap, _, rfl, _⟩
      · cases x <;> simp [Builtin.firstCells, loadCells, loadCellsFrom]
      · simp [Builtin.firstCells, loadCells, loadCellsFrom]
    · intro D
      rcases ry with ⟨_, x, rfl⟩ | ⟨l, cap, _, rfl, _⟩ <;> rfl
  · rw [if_neg hm] at he
    split at he
    · rename_i cs hr
      split at he
      · rename_i hle
        cases he
        rcases ry with ⟨h0, _⟩ | ⟨l, cap, hl, rfl, _⟩
        · exact absurd h0 hm
        · have hlen : ((cs.drop o).take (m * k)).length = m * k := by simp; omega
          have hget : ∀ i : Nat, i < m * k → ∃ v, w.cell? ⟨l.b, l.sh + o + i, none⟩ = some v ∧ ∃ x, ((cs.drop o).take (m * k))[i]? = some x ∧ VRel ι x v := by
            intro i hi
            have hlt : o + i < cs.length := by omega
            obtain ⟨v, hv, hr'⟩ := cell_of_row rw' hr (List.getElem?_eq_getElem hlt) hl
            refine ⟨v, by rw [← hv, Nat.add_assoc], cs[o + i], ?_, hr'⟩
            rw [List.getElem?_take_of_lt hi, List.getElem?_drop, List.getElem?_eq_getElem hlt]
          let us : List Value := (List.range (m * k)).map fun i => (w.cell? ⟨l.b, l.sh + o + i, none⟩).getD undef
          have hus : ∀ i, i < m * k → us[i]? = w.cell? ⟨l.b, l.sh + o + i, none⟩ := by
            intro i hi
            obtain ⟨v, hv, _⟩ := hget i hi
            simp [us, hi, hv]
          refine ⟨us, fun D hD => ?_, ?_, hlen, fun _ => rfl⟩
          · refine run_firstCells_some D k m _ _ _ us (by simp [us]) fun j v hv => ?_
            have hj : j < m * k := by have := (List.getElem?_eq_some_iff.1 hv).1; simpa [us] using this
            rw [Addr.add_eq, hD, ← hus j hj]
            exact hv
          · refine VRels_iff.2 ⟨by rw [hlen]; simp [us], fun i x v hx hv => ?_⟩
            have hi : i < m * k := by have := (List.getElem?_eq_some_iff.1 hx).1; omega
            obtain ⟨v', hv', x', hx', hr'⟩ := hget i hi
            rw [hus i hi, hv'] at hv
            cases hv
            rw [hx'] at hx
            cases hx
            exact hr'
      · cases he
    · cases he

theorem elems_sound (rw' : WRel ι h w) {k m : Nat} {ay : AV} {ys : List AV} (hm : ay.sln = some m) (he : h.elems k ay = some ys) {y : Value} (ry : VRel ι ay y) :
    ∃ us : List Value, (∀ (D : World), (∀ b, D.cell? b = w.cell? b) → (Builtin.firstCells k m y).run P D = .ok us.toArray D) ∧ VRels ι ys us ∧ ys.length = m * k ∧ (∀ D : World, (Builtin.lenOf y).run P D = .ok m D) := by
  cases ay <;> simp only [AV.sln, reduceCtorEq, Option.some.injEq] at hm
  case sl => subst hm; exact elems_sound0 rw' he ry
  case vs n cs =>
    subst hm
    simp only [AH.elems] at he
    simp only [VRel] at ry
    split at he
    · rename_i hle
      cases he
      rcases ry with ⟨rfl, x, rfl⟩ | ⟨b, s, cap, xs, rfl, hc, hf, hr⟩
      · have : ys = [] := List.length_eq_zero_iff.1 (by omega)
        subst this
        refine ⟨[], fun D _ => ?_, by simp [VRels], by simp, fun D => rfl⟩
        cases x <;> simp [Builtin.firstCells, loadCells, loadCellsFrom]
      · refine ⟨(xs.toList.drop s).take ys.length, fun D hD => ?_, hr, hle.symm, fun _ => rfl⟩
        have hl := hr.length
        refine run_firstCells_some D k n _ _ _ _ (by rw [← hl]; exact hle.symm) fun j v hv => ?_
        have hj : j < ys.length := by have := (List.getElem?_eq_some_iff.1 hv).1; rw [← hl] at this; exact this
        rw [List.getElem?_take_of_lt hj, List.getElem?_drop] at hv
        obtain ⟨⟨e, fz, hh⟩, _⟩ := rw'.phi b xs hf
        rw [Addr.add_eq, hD]
        simp only [World.cell?, hh]
        simpa using hv
    · cases he

theorem Moves.mk' {o : Oper} {nv : Value → Next} {r : AV} {h' : AH} {tok : Nat} (u : Value) (w' : World) (ι' : Inj) (h1 : (execOp a.eval o).run P w = .ok (nv u) w') (h2 : ι.le ι') (h3 : ∀ s, s ≠ tok → ι' s = ι s) (h4 : VRel ι' r u) (h5 : WRel ι' h' w')
    (h6 : ∀ ι0 h0 w0, Ext ι0 h0 w0 ι h w → h0.nx ≤ tok → Ext ι0 h0 w0 ι' h' w') : Moves P ι h w a o nv r h' tok := ⟨u, w', ι', h1, h2, h3, h4, h5, h6⟩

theorem app_moves (ra : ARel N ι st a) (rw' : WRel ι h w) {o : Oper} {c : Call} (ho : o.op = .call c) (hc : c.callee = .builtin .append) {t u : TypeId} (hat : c.argTypes.toList = [t, u]) {x y : Operand} (har : c.args.toList = [x, y])
    {e e' : TypeId} (ht : P.underlying t = some (.slice e)) (hu : P.underlying u = some (.slice e')) {k : Nat} (hk : szOf P e = some k) {bytes : Nat} (hby : (P.info? e).map (·.bytes) = some bytes) {z : List AV} (hz : zeroOf P e = some z) (hzl : z.length = k)
    {ax ay : AX} (hx : toX x = some ax) (hy : toX y = some ay) {tok : Nat} {r : AV} {h' : AH} (hs : h.app k bytes tok (ax.val st) (ay.val st) = some (r, h'))
    (hf1 : ι tok = none) (hf3 : tok < h.nx) (hf4 : tok ≠ 0) : Moves P ι h w a o .value r h' tok := by
  have rx := toX_sound ra hx
  have ry := toX_sound ra hy
  have e1 : c.argTypes = #[t, u] := by rw [← Array.toArray_toList (xs := c.argTypes), hat]
  have e2 : c.args = #[x, y] := by rw [← Array.toArray_toList (xs := c.args), har]
  obtain ⟨ti, hti, hbb⟩ := Option.map_eq_some_iff.1 hby
  have hks : ti.size = k := by unfold szOf at hk; rw [hti] at hk; simpa using hk
  have hzv : ∃ zv, ti.zero = some zv ∧ zv.cells.size = k := by
    obtain ⟨zv', hr1, hr2⟩ := zeroOf_run hz ι w
    unfold zeroOf at hz
    simp only [hti, Option.bind_eq_bind, Option.bind_some, Option.bind_eq_some_iff] at hz
    obtain ⟨zv, hzv, _⟩ := hz
    simp only [zeroValue, typeInfo, Sem.run_bind, run_program, Result.andThen_ok, hti, Sem.run_pure, hzv] at hr1
    cases hr1
    have := hr2.length
    simp only [Array.length_toList] at this
    exact ⟨_, hzv, by omega⟩
  obtain ⟨zv, hzv, hzsz⟩ := hzv
  have hexec : ∀ D : World, (execOp a.eval o).run P D = ((Builtin.append_ #[t, u] o.type #[a.eval x, a.eval y]).run P D).andThen fun v D' => Result.ok (Next.value v) D' := by
    intro D
    simp [execOp, ho, resolve, hc, invoke, builtin, e1, e2]
  unfold AH.app at hs
  split at hs
  · rename_i t1 o1 n1 a1 m ys q1 q2 hel
    rw [q1] at rx
    obtain ⟨us, hfirst, hus, hyl, hlen⟩ := elems_sound (P := P) rw' q2 hel ry
    · split at hs
      · rename_i hcond
        obtain ⟨hall, hk0, hmax, hbytes⟩ := hcond
        have hul : us.length = m * k := by rw [← hus.length]; exact hyl
        have hone : ∀ q ∈ us, q.oneCell' = true := by
          intro q hq
          obtain ⟨i, hi, rfl⟩ := List.mem_iff_getElem.1 hq
          obtain ⟨hl', hr⟩ := VRels_iff.1 hus
          have hi' : i < ys.length := by omega
          exact (hr i ys[i] _ (List.getElem?_eq_getElem hi') (List.getElem?_eq_getElem hi)).one (List.all_eq_true.1 hall _ (List.getElem_mem hi'))
        -- THE SOURCE DOES NOT FIT: a new row
        have grow : ∀ (base : Option Addr) (cap : Nat) (olds : List Value) (cs : List AV) (hh : AH), a.eval x = .slice base n1 cap → cap < n1 + m → hh.le h → hh.nx = h.nx →
            (∀ D : World, (∀ b, D.cell? b = w.cell? b) → (Builtin.firstCells k n1 (.slice base n1 cap)).run P D = .ok olds.toArray D) → VRels ι cs olds → olds.length = n1 * k →
            Moves P ι h w a o .value (.sl tok 0 (n1 + m) k) (hh.set tok (.cells true (cs ++ ys))) tok := by
          intro base cap olds cs hh hev hlt hle hnx hfo hro hol
          have hns : ¬ (n1 + m ≤ cap) := by omega
          have hfit := growslice_fits (bytes := bytes) hlt hbytes
          have h63 : ¬ (9223372036854775807 < ((n1 : Int) + (m : Int))) := by omega
          have h48 : ¬ (281474976710656 < Builtin.nextslicecap (n1 + m) cap * bytes) := by omega
          let nc := grownCap w (n1 + m) cap e
          let row : Array Value := (olds ++ us).toArray ++ Builtin.zeroCells zv.cells (nc - (n1 + m))
          have hrun : (Builtin.append_ #[t, u] o.type #[a.eval x, a.eval y]).run P w = .ok (.slice (some ⟨w.heap.size, 0, none⟩) (n1 + m) nc) (w.drew.alloc (.cells row e)) := by
            have f1 := hfirst w.drew (fun b => rfl)
            have f2 := hfo w.drew (fun b => rfl)
            rw [hev]
            simp [Builtin.append_, und_run ht, und_run hu, sizeOf, typeInfo, zeroValue, hti, hzv, hks, hbb, hlen, hns, h63, h48, Question.forced, f1, f2, newRow, nc, row, grownCap]
            congr 2
            apply Array.ext'
            simp
          have hncge : n1 + m ≤ nc := by simp only [nc, grownCap, Question.cut]; omega
          have hrow : VRels ι (cs ++ ys) (olds ++ us) := hro.append hus
          have hrl : (cs ++ ys).length = (n1 + m) * k := by rw [hrow.length, List.length_append, hol, hul, Nat.add_mul]
          have hsz : row.size = nc * k := by
            simp only [row, Array.size_append, List.size_toArray, List.length_append, hol, hul, Builtin.zeroCells, Array.size_map, Array.size_range, hzsz]
            rw [← Nat.add_mul, ← Nat.add_mul]
            congr 1; omega
          have r1 := (rw'.drop hle).drew
          refine Moves.mk' (.slice (some ⟨w.heap.size, 0, none⟩) (n1 + m) nc) (w.drew.alloc (.cells row e)) (ι.set tok ⟨w.heap.size, 0, row.size⟩) (by rw [hexec, hrun]; rfl) (Inj.le_set hf1 _) (fun s hs' => by simp [Inj.set, hs']) ?_ ?_ ?_
          · simp only [VRel]
            exact .inr ⟨⟨w.heap.size, 0, row.size⟩, nc, by simp [Inj.set], rfl, hncge, .inr (by simp [hsz])⟩
          · refine r1.alloc hf1 (by omega) hf4 e (by rw [hrl, hsz]; exact Nat.mul_le_mul_right k hncge) fun i q hq => ?_
            obtain ⟨v, hv, hr⟩ := hrow.get hq
            refine ⟨v, ?_, hr⟩
            have hi : i < (olds ++ us).length := (List.getElem?_eq_some_iff.1 hv).1
            simp only [row]
            rw [Array.getElem?_append_left (by simpa using hi)]
            simpa using hv
          · intro ι0 h0 w0 x0 hlt0
            exact ((x0.drop hle).drew).alloc hlt0 _ _ _
        -- NOTHING IS KNOWN OF THE FIRST ARGUMENT's BLOCK: it has no cells
        have empty : ∀ (b0 : Option Addr) (hh : AH), n1 = 0 → a.eval x = .slice b0 0 0 → hh.le h → hh.nx = h.nx → Moves P ι h w a o .value (.sl tok 0 (n1 + m) k) (hh.set tok (.cells true ys)) tok := by
          intro b0 hh hn hev hle hnx
          subst hn
          by_cases hm : m = 0
          · subst hm
            have hys : ys = [] := List.length_eq_zero_iff.1 (by simpa using hyl)
            subst hys
            have hus0 : us = [] := List.length_eq_zero_iff.1 (by simpa using hul)
            subst hus0
            have hrun : (Builtin.append_ #[t, u] o.type #[a.eval x, a.eval y]).run P w = .ok (.slice b0 0 0) w := by
              have f1 := hfirst w (fun b => rfl)
              rw [hev]
              cases b0 <;> simp [Builtin.append_, und_run ht, und_run hu, sizeOf, typeInfo, hti, hlen, f1, hks, storeCells]
            refine Moves.mk' (.slice b0 0 0) w ι (by rw [hexec, hrun]; rfl) (Inj.le_refl _) (fun _ _ => rfl) (by simp only [VRel]; exact .inl ⟨by trivial, b0, rfl⟩) ?_ ?_
            · have r1 := rw'.drop hle
              refine ⟨fun s l hs' => r1.lt s l hs', fun s c0 hs' => ?_, fun s s' l l' c0 c0' q3 q4 q5 q6 q7 q8 => ?_, r1.pos, r1.nil, fun b xs hb => ⟨(r1.phi b xs hb).1, fun s c0 l hs' hc0 hl => ?_⟩⟩
              · unfold AH.set at hs'
                by_cases he : s = tok
                · subst he
                  simp only [if_true, Option.some.injEq] at hs'
                  subst hs'
                  exact ⟨by simp only [AH.set]; omega, .inl ⟨rfl, hf1⟩⟩
                · simp only [if_neg he] at hs'
                  exact r1.blk s c0 hs'
              · unfold AH.set at q3 q4
                have e3 : s ≠ tok := fun he => by subst he; rw [hf1] at q5; cases q5
                have e4 : s' ≠ tok := fun he => by subst he; rw [hf1] at q6; cases q6
                simp only [if_neg e3] at q3
                simp only [if_neg e4] at q4
                exact r1.inj s s' l l' c0 c0' q3 q4 q5 q6 q7 q8
              · unfold AH.set at hs'
                have e3 : s ≠ tok := fun he => by subst he; rw [hf1] at hl; cases hl
                simp only [if_neg e3] at hs'
                exact (r1.phi b xs hb).2 s c0 l hs' hc0 hl
            · intro ι0 h0 w0 x0 hlt0
              have x1 := x0.drop hle
              refine { x1 with img := fun s c0 l hs' hc0 hl => ?_ }
              unfold AH.set at hs'
              have e3 : s ≠ tok := fun he => by subst he; rw [hf1] at hl; cases hl
              simp only [if_neg e3] at hs'
              exact x1.img s c0 l hs' hc0 hl
          · have := grow b0 0 [] [] hh hev (by omega) hle hnx (fun D _ => by cases b0 <;> simp [Builtin.firstCells, loadCells, loadCellsFrom]) (by simp [VRels]) (by simp)
            simpa using this
        by_cases ht0 : t1 = 0
        · rw [if_pos ht0] at hs
          split at hs
          · rename_i hn0
            cases hs
            simp only [VRel] at rx
            rcases rx with ⟨_, b0, hb0⟩ | ⟨l, cap, hl, _⟩
            · have := empty b0 h hn0 hb0 (AH.le_refl _) rfl
              rw [hn0, Nat.zero_add] at this
              exact this
            · rw [ht0, rw'.nil] at hl; cases hl
          · cases hs
        · rw [if_neg ht0] at hs
          split at hs
          · rename_i cs hm1
            split at hs
            · rename_i hend
              obtain ⟨hak, hend⟩ := hend
              cases hs
              subst hak
              simp only [VRel] at rx
              rcases rx with ⟨hn0, b0, hb0⟩ | ⟨l, cap, hl, hev, hncap, hcap⟩
              · have hd : cs.drop o1 = [] := List.drop_eq_nil_of_le (by rw [hn0] at hend; omega)
                rw [hd, List.nil_append]
                exact empty b0 (h.kill t1) hn0 hb0 (h.kill_le t1) rfl
              · have hcap : l.sh + o1 + cap * a1 ≤ l.sz := hcap.resolve_left hk0
                have hdl : (cs.drop o1).length = n1 * a1 := by simp; omega
                have hb := (rw'.blk t1 _ hm1).2
                simp only [BRel] at hb
                rcases hb with ⟨_, h2⟩ | ⟨l1, vs, e0, fz, h1, h2, h3, h4, h5, h6⟩
                · rw [hl] at h2; cases h2
                rw [hl] at h1; cases h1
                have h5 := h5 (by trivial)
                subst h5
                by_cases hroom : n1 + m ≤ cap
                · -- IN PLACE
                  have hmul : (n1 + m) * a1 ≤ cap * a1 := Nat.mul_le_mul_right a1 hroom
                  rw [Nat.add_mul] at hmul
                  have hst := run_storeCells_at P l.b (l.sh + o1 + n1 * a1) e0 us 0 vs w h2 (by omega) hone
                  simp only [Nat.add_zero] at hst
                  let vs' : Array Value := (vs.toList.take (l.sh + o1 + n1 * a1) ++ us ++ vs.toList.drop (l.sh + o1 + n1 * a1 + us.length)).toArray
                  have hsz : vs'.size = vs.size := by simp [vs']; omega
                  have hrun : (Builtin.append_ #[t, u] o.type #[a.eval x, a.eval y]).run P w = .ok (.slice (some ⟨l.b, l.sh + o1, none⟩) (n1 + m) cap) (w.setRow l.b vs') := by
                    have f1 := hfirst w (fun b => rfl)
                    rw [hev]
                    simp [Builtin.append_, und_run ht, und_run hu, sizeOf, typeInfo, hti, hlen, f1, hks, hroom, Addr.add_eq, hst, vs']
                  have r1 := rw'.rename hm1 hf1 hf3 hf4 hl (o := o1) (by omega)
                  have hm2 : ((h.kill t1).set tok (.cells true (cs.drop o1))).m tok = some (.cells true (cs.drop o1)) := by simp [AH.set]
                  have hl2 : (ι.set tok ⟨l.b, l.sh + o1, l.sz⟩) tok = some ⟨l.b, l.sh + o1, l.sz⟩ := by simp [Inj.set]
                  have hset : ∀ c1 c2, ((h.kill t1).set tok c1).set tok c2 = (h.kill t1).set tok c2 := by
                    intro c1 c2; unfold AH.set; congr 1; funext s; by_cases hs' : s = tok <;> simp [hs']
                  refine Moves.mk' (.slice (some ⟨l.b, l.sh + o1, none⟩) (n1 + m) cap) (w.setRow l.b vs') (ι.set tok ⟨l.b, l.sh + o1, l.sz⟩) (by rw [hexec, hrun]; rfl) (Inj.le_set hf1 _) (fun s hs' => by simp [Inj.set, hs']) ?_ ?_ ?_
                  · simp only [VRel]
                    exact .inr ⟨⟨l.b, l.sh + o1, l.sz⟩, cap, hl2, rfl, hroom, .inr (by simpa using hcap)⟩
                  · have := r1.write hm2 hl2 h2 hsz (cs' := cs.drop o1 ++ ys) (by simp only [List.length_append, hdl, hyl]; omega) fun i q hq => ?_
                    · rw [hset] at this; exact this
                    · simp only [vs', List.getElem?_toArray]
                      rw [List.append_assoc]
                      by_cases c1 : i < n1 * a1
                      · rw [List.getElem?_append_left (by omega), List.getElem?_drop] at hq
                        obtain ⟨v, hv, hr⟩ := h6 _ q hq
                        refine ⟨v, ?_, hr.mono (Inj.le_set hf1 _)⟩
                        rw [List.getElem?_append_left (by simp; omega), List.getElem?_take_of_lt (by omega)]
                        rw [← Array.getElem?_toList] at hv
                        rw [← hv]; congr 1; omega
                      · rw [List.getElem?_append_right (by omega), hdl] at hq
                        obtain ⟨v, hv, hr⟩ := hus.get hq
                        have hi : i - n1 * a1 < us.length := (List.getElem?_eq_some_iff.1 hv).1
                        refine ⟨v, ?_, hr.mono (Inj.le_set hf1 _)⟩
                        rw [List.getElem?_append_right (by simp; omega), List.getElem?_append_left (by simp; omega)]
                        rw [← hv]; congr 1; simp; omega
                  · intro ι0 h0 w0 x0 hlt0
                    have := (x0.rename (cs' := cs.drop o1) hm1 hl hlt0 (l.sh + o1) l.sz).write (cs' := cs.drop o1 ++ ys) hm2 hl2 vs'
                    rw [hset] at this
                    exact this
                · have hro : VRels ι (cs.drop o1) ((vs.toList.drop (l.sh + o1)).take (n1 * a1)) := by
                    refine VRels_iff.2 ⟨by rw [hdl]; simp; omega, fun i q v hq hv => ?_⟩
                    rw [List.getElem?_drop] at hq
                    obtain ⟨v', hv', hr⟩ := h6 _ q hq
                    have hi : i < n1 * a1 := by have := (List.getElem?_eq_some_iff.1 hv).1; simp at this; omega
                    rw [List.getElem?_take_of_lt hi, List.getElem?_drop] at hv
                    rw [← Array.getElem?_toList] at hv'
                    rw [show l.sh + o1 + i = l.sh + (o1 + i) by omega, hv'] at hv
                    cases hv
                    exact hr
                  refine grow (some ⟨l.b, l.sh + o1, none⟩) cap ((vs.toList.drop (l.sh + o1)).take (n1 * a1)) (cs.drop o1) (h.kill t1) hev (by omega) (h.kill_le t1) rfl (fun D hD => ?_) hro (by rw [← hro.length, hdl])
                  refine run_firstCells_some D a1 n1 _ _ _ _ (by rw [← hro.length, hdl]) fun j v hv => ?_
                  have hj : j < n1 * a1 := by have := (List.getElem?_eq_some_iff.1 hv).1; rw [← hro.length, hdl] at this; exact this
                  rw [List.getElem?_take_of_lt hj, List.getElem?_drop] at hv
                  rw [Addr.add_eq, hD]
                  simp only [World.cell?, h2]
                  simpa using hv
            · cases hs
          · cases hs
      · cases hs
  · cases hs
end
end Go.Am
