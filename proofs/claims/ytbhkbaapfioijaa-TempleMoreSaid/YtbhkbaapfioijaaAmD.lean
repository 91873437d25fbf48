/- The abstract machine: the other operations that yield a value are sound. -/
import Derived.Test.YtbhkbaapfioijaaAmC
set_option linter.unusedVariables false
set_option linter.unusedSimpArgs false
namespace Go.Am
section
variable {P : Program} {N : Nat} {ι : Inj} {st : St} {a : Act} {h : AH} {w : World}

theorem sound_mv (ra : ARel N ι st a) {o : Oper} {x : Operand} (ho : o.op = .move x ∨ o.op = .assign x) {ax : AX} (hx : toX x = some ax) : Sound P ι st a h w o (.mv ax) := by
  intro v hv
  simp only [AOp.ev, Option.some.injEq] at hv
  subst hv
  rcases ho with ho | ho <;> exact ⟨_, by simp [execOp, ho], toX_sound ra hx⟩

theorem strip_sound {g : Bool} (hg : g = true) {x : AV} {u : Value} (r : VRel ι x u) : VRel ι (strip g x) u := by
  unfold strip
  split
  · rename_i g' v
    split
    · rename_i hc
      subst hg
      simp only [VRel] at r
      exact r.1 (by simpa using hc)
    · exact r
  · exact r

theorem sound_pick (ra : ARel N ι st a) {o : Oper} {c x y : Operand} (ho : o.op = .pick c x y) {ac ax ay : AX} (hc : toX c = some ac) (hx : toX x = some ax) (hy : toX y = some ay) :
    Sound P ι st a h w o (.pick ac ax ay) := by
  intro v hv
  simp only [AOp.ev] at hv
  have rc := toX_sound ra hc
  split at hv
  · rename_i t ht
    rw [ht] at rc
    simp only [VRel] at rc
    cases t
    · refine ⟨a.eval y, by simp [execOp, ho, rc, asBool], ?_⟩
      have r := strip_sound (g := true) rfl (toX_sound ra hy)
      have : v = strip true (ay.val st) := by
        simp only [Bool.not_false] at hv
        generalize strip true (ay.val st) = q at hv
        unfold apick at hv
        split at hv <;> simp at hv <;> exact hv.symm
      rw [this]; exact r
    · refine ⟨a.eval x, by simp [execOp, ho, rc, asBool], ?_⟩
      have r := strip_sound (g := true) rfl (toX_sound ra hx)
      have : v = strip true (ax.val st) := by
        generalize strip true (ax.val st) = q at hv
        unfold apick at hv
        split at hv <;> simp at hv <;> exact hv.symm
      rw [this]; exact r
  · cases hv

theorem sound_neg (ra : ARel N ι st a) {o : Oper} {t : TypeId} {x : Operand} (ho : o.op = .unOp .neg t x) {ax : AX} (hx : toX x = some ax) : Sound P ι st a h w o (.neg ax) := by
  intro v hv
  simp only [AOp.ev] at hv
  have rx := toX_sound ra hx
  split at hv
  · rename_i k n ht
    rw [ht] at rx
    simp only [VRel] at rx
    cases hv
    exact ⟨.int k (k.wrap (0 - n)), by simp [execOp, ho, rx, Op.unary, Op.intArith], by simp only [VRel]⟩
  · cases hv

theorem sound_not (ra : ARel N ι st a) {o : Oper} {t : TypeId} {x : Operand} (ho : o.op = .unOp .not t x) {ax : AX} (hx : toX x = some ax) : Sound P ι st a h w o (.not ax) := by
  intro v hv
  simp only [AOp.ev] at hv
  have rx := toX_sound ra hx
  split at hv
  · rename_i t ht
    rw [ht] at rx
    simp only [VRel] at rx
    cases hv
    exact ⟨.bool !t, by simp [execOp, ho, rx, Op.unary], by simp only [VRel]⟩
  · cases hv

theorem sound_conv (ra : ARel N ι st a) {o : Oper} {s d : TypeId} {x : Operand} (ho : o.op = .convert s d x) {ks k : IntKind} (hs : P.underlying s = some (.int ks)) (hd : P.underlying d = some (.int k))
    {ax : AX} (hx : toX x = some ax) : Sound P ι st a h w o (.conv k ax) := by
  intro v hv
  simp only [AOp.ev] at hv
  have rx := toX_sound ra hx
  split at hv
  · rename_i k' n ht
    rw [ht] at rx
    simp only [VRel] at rx
    cases hv
    exact ⟨.int k (k.wrap n), by simp [execOp, ho, rx, convert, und_run hs, und_run hd, Conv.intToInt], by simp only [VRel]⟩
  · cases hv

theorem sound_ext (ra : ARel N ι st a) {o : Oper} {x : Operand} {i : Nat} (ho : o.op = .extract x i) {ax : AX} (hx : toX x = some ax) : Sound P ι st a h w o (.ext ax i) := by
  intro v hv
  simp only [AOp.ev] at hv
  have rx := toX_sound ra hx
  split at hv
  · rename_i vs ht
    rw [ht] at rx
    simp only [VRel] at rx
    obtain ⟨us, hu, hr⟩ := rx
    obtain ⟨u, h1, h2⟩ := hr.get hv
    refine ⟨u, ?_, h2⟩
    have h1' : us[i]? = some u := by simpa using h1
    simp [execOp, ho, hu, Instr.extract, h1']
  · cases hv

theorem sound_fa (ra : ARel N ι st a) {o : Oper} {s : TypeId} {x : Operand} {f : Nat} (ho : o.op = .fieldAddr s x f) {fs : Array Field} (hs : P.underlying s = some (.struct fs)) {fl : Field} (hf : fs[f]? = some fl)
    {n : Nat} (hn : szOf P fl.type = some n) (h0 : n ≠ 0) {ax : AX} (hx : toX x = some ax) : Sound P ι st a h w o (.fa ax fl.offset) := by
  intro v hv
  simp only [AOp.ev] at hv
  have rx := toX_sound ra hx
  split at hv
  · rename_i t o' ht
    rw [ht] at rx
    simp only [VRel] at rx
    obtain ⟨l, hl, hp⟩ := rx
    cases hv
    refine ⟨.pointer (some ⟨l.b, l.sh + o' + fl.offset, none⟩), ?_, ?_⟩
    · simp [execOp, ho, hp, Instr.fieldAt, und_run hs, hf, Instr.sureAddr, fieldPlace, szOf_run hn, h0, Addr.add_eq]
    · simp only [VRel]; exact ⟨l, hl, by rw [Nat.add_assoc]⟩
  · rename_i cs o' ht
    rw [ht] at rx
    simp only [VRel] at rx
    obtain ⟨b, s, xs, hp, hf, hr⟩ := rx
    cases hv
    refine ⟨.pointer (some ⟨b, s + o' + fl.offset, none⟩), ?_, ?_⟩
    · simp [execOp, ho, hp, Instr.fieldAt, und_run hs, ‹fs[f]? = some fl›, Instr.sureAddr, fieldPlace, szOf_run hn, h0, Addr.add_eq]
    · simp only [VRel]; exact ⟨b, s, xs, by rw [Nat.add_assoc], hf, hr⟩
  · cases hv

theorem part_run {t : TypeId} {n : Option Nat} (hn : ldOf P t = some n) {cs : List AV} {vs : Array Value} (hr : VRels ι cs vs.toList) {off : Nat} {x : AV}
    (hx : rd cs off n = some x) (w : World) :
    ∃ v, (part t vs off).run P w = .ok v w ∧ VRel ι x v := by
  obtain ⟨g, m, hg, hm, rfl, _⟩ := ldOf_spec hn
  cases g with
  | false =>
    have hx : cs[off]? = some x := hx
    obtain ⟨u, h1, h2⟩ := hr.get hx
    have h1' : vs[off]? = some u := by simpa using h1
    exact ⟨u, by simp [part, agg_run hg, h1'], h2⟩
  | true =>
    have hx : (if off + m ≤ cs.length then some (AV.ag ((cs.drop off).take m)) else none) = some x := hx
    split at hx
    · cases hx
      refine ⟨.agg (vs.extract off (off + m)), by simp [part, agg_run hg, szOf_run hm], ?_⟩
      simp only [VRel]
      refine ⟨_, rfl, ?_⟩
      have := (hr.drop off).take m
      simpa [List.drop_take] using this
    · cases hx

theorem sound_fld (ra : ARel N ι st a) {o : Oper} {s : TypeId} {x : Operand} {f : Nat} (ho : o.op = .field s x f) {fs : Array Field} (hs : P.underlying s = some (.struct fs)) {fl : Field} (hf : fs[f]? = some fl)
    {n : Option Nat} (hn : ldOf P fl.type = some n) {ax : AX} (hx : toX x = some ax) : Sound P ι st a h w o (.fld ax fl.offset n) := by
  intro v hv
  simp only [AOp.ev] at hv
  have rx := toX_sound ra hx
  split at hv
  · rename_i cs ht
    rw [ht] at rx
    simp only [VRel] at rx
    obtain ⟨vs, he, hr⟩ := rx
    obtain ⟨u, h1, h2⟩ := part_run (P := P) hn hr hv w
    exact ⟨u, by simp [execOp, ho, he, Instr.field, und_run hs, hf, asAgg, h1], h2⟩
  · cases hv

theorem sound_ia (ra : ARel N ι st a) {o : Oper} {t : TypeId} {x i : Operand} (ho : o.op = .indexAddr t x i) {e : TypeId} (hs : P.underlying t = some (.slice e)) {k : Nat} (hk : szOf P e = some k)
    {ax ai : AX} (hx : toX x = some ax) (hi : toX i = some ai) : Sound P ι st a h w o (.ia k ax ai) := by
  intro v hv
  simp only [AOp.ev] at hv
  have rx := toX_sound ra hx
  have ri := toX_sound ra hi
  split at hv
  · rename_i t' o' n m kk j h1 h2
    rw [h1] at rx; rw [h2] at ri
    simp only [VRel] at rx ri
    split at hv
    · rename_i hj
      cases hv
      rcases rx with ⟨h0, _⟩ | ⟨l, cap, hl, hv, hc, _⟩
      · omega
      · refine ⟨.pointer (some ⟨l.b, l.sh + o' + j.toNat * k, none⟩), ?_, ?_⟩
        · simp [execOp, ho, hv, ri, Instr.indexAt, asIntOf, und_run hs, hj.1, hj.2, szOf_run hk, Addr.add_eq]
        · simp only [VRel]; exact ⟨l, hl, by rw [Nat.add_assoc]⟩
    · cases hv
  · rename_i n cs kk j h1 h2
    rw [h1] at rx; rw [h2] at ri
    simp only [VRel] at rx ri
    split at hv
    · rename_i hj
      cases hv
      rcases rx with ⟨h0, _⟩ | ⟨b, s, cap, xs, hv, hc, hf, hr⟩
      · omega
      · refine ⟨.pointer (some ⟨b, s + j.toNat * k, none⟩), ?_, ?_⟩
        · simp [execOp, ho, hv, ri, Instr.indexAt, asIntOf, und_run hs, hj.1, hj.2, szOf_run hk, Addr.add_eq]
        · simp only [VRel]; exact ⟨b, s, xs, rfl, hf, hr⟩
    · cases hv
  · cases hv

theorem sound_iap (ra : ARel N ι st a) {o : Oper} {t : TypeId} {x i : Operand} (ho : o.op = .indexAddr t x i) {n : Nat} {e : TypeId} (hs : P.underlying t = some (.array n e)) {k : Nat} (hk : szOf P e = some k)
    {ax ai : AX} (hx : toX x = some ax) (hi : toX i = some ai) : Sound P ι st a h w o (.iap n k ax ai) := by
  intro v hv
  simp only [AOp.ev] at hv
  have rx := toX_sound ra hx
  have ri := toX_sound ra hi
  split at hv
  · rename_i t' o' kk j h1 h2
    rw [h1] at rx; rw [h2] at ri
    simp only [VRel] at rx ri
    split at hv
    · rename_i hj
      cases hv
      obtain ⟨l, hl, hv⟩ := rx
      refine ⟨.pointer (some ⟨l.b, l.sh + o' + j.toNat * k, none⟩), ?_, ?_⟩
      · simp [execOp, ho, hv, ri, Instr.indexAt, asIntOf, und_run hs, hj.1, hj.2, szOf_run hk, Addr.add_eq, Instr.sureAddr]
      · simp only [VRel]; exact ⟨l, hl, by rw [Nat.add_assoc]⟩
    · cases hv
  · rename_i cs o' kk j h1 h2
    rw [h1] at rx; rw [h2] at ri
    simp only [VRel] at rx ri
    split at hv
    · rename_i hj
      cases hv
      obtain ⟨b, s, xs, hv, hf, hr⟩ := rx
      refine ⟨.pointer (some ⟨b, s + o' + j.toNat * k, none⟩), ?_, ?_⟩
      · simp [execOp, ho, hv, ri, Instr.indexAt, asIntOf, und_run hs, hj.1, hj.2, szOf_run hk, Addr.add_eq, Instr.sureAddr]
      · simp only [VRel]; exact ⟨b, s, xs, by rw [Nat.add_assoc], hf, hr⟩
    · cases hv
  · cases hv

theorem sound_iv (ra : ARel N ι st a) {o : Oper} {t : TypeId} {x i : Operand} (ho : o.op = .index t x i) {n : Nat} {e : TypeId} (hs : P.underlying t = some (.array n e)) {k : Nat} (hk : szOf P e = some k)
    {g : Bool} (hg : aggOf P e = some g) (hk1 : g = false → k = 1) {ax ai : AX} (hx : toX x = some ax) (hi : toX i = some ai) : Sound P ι st a h w o (.iv n k g ax ai) := by
  intro v hv
  simp only [AOp.ev] at hv
  have rx := toX_sound ra hx
  have ri := toX_sound ra hi
  split at hv
  · rename_i cs kk j h1 h2
    rw [h1] at rx; rw [h2] at ri
    simp only [VRel] at rx ri
    split at hv
    · rename_i hj
      obtain ⟨vs, hv', hr⟩ := rx
      have hn : ldOf P e = some (if g then some k else none) := by
        unfold ldOf
        simp only [hg, hk, Option.bind_eq_bind, Option.bind_some]
        cases g
        · simp [hk1 rfl]
        · rfl
      have hlt : j.toNat + 1 ≤ n := by omega
      have hle : j.toNat * k + k ≤ cs.length := by
        have := Nat.mul_le_mul_right k hlt
        rw [Nat.add_mul, Nat.one_mul] at this
        omega
      obtain ⟨u, h3, h4⟩ := part_run (P := P) (off := j.toNat * k) (x := v) hn hr (by
        cases g
        · show cs[j.toNat * k]? = some v
          simpa using hv
        · show (if j.toNat * k + k ≤ cs.length then some (AV.ag ((cs.drop (j.toNat * k)).take k)) else none) = some v
          rw [if_pos hle]; exact hv) w
      exact ⟨u, by simp [execOp, ho, hv', ri, Instr.index, asIntOf, und_run hs, hj.1, hj.2.1, szOf_run hk, h3], h4⟩
    · cases hv
  · cases hv

theorem sound_nck (ra : ARel N ι st a) {o : Oper} {x : Operand} (ho : o.op = .nilCheck x) {ax : AX} (hx : toX x = some ax) : Sound P ι st a h w o (.nck ax) := by
  intro v hv
  simp only [AOp.ev] at hv
  have rx := toX_sound ra hx
  split at hv
  · rename_i t o' ht
    cases hv
    have r0 := rx
    rw [ht] at rx r0
    simp only [VRel] at rx
    obtain ⟨l, hl, hp⟩ := rx
    exact ⟨a.eval x, by simp [execOp, ho, hp], r0⟩
  · rename_i cs o' ht
    cases hv
    have r0 := rx
    rw [ht] at rx r0
    simp only [VRel] at rx
    obtain ⟨b, s, xs, hp, _⟩ := rx
    exact ⟨a.eval x, by simp [execOp, ho, hp], r0⟩
  · rename_i f x1 x2 ht
    cases hv
    have r0 := rx
    rw [ht] at rx r0
    simp only [VRel] at rx
    obtain ⟨p, q, hp, _⟩ := rx
    exact ⟨a.eval x, by simp [execOp, ho, hp], r0⟩
  · cases hv

theorem sound_len (ra : ARel N ι st a) {o : Oper} {c : Call} (ho : o.op = .call c) (hc : c.callee = .builtin .len) {t : TypeId} {x : Operand} (ht : c.argTypes[0]? = some t) (hx' : c.args.toList = [x]) {e : TypeId} (hs : P.underlying t = some (.slice e))
    {ax : AX} (hx : toX x = some ax) : Sound P ι st a h w o (.len ax) := by
  intro v hv
  simp only [AOp.ev] at hv
  have rx := toX_sound ra hx
  have harg : c.args = #[x] := by rw [← Array.toArray_toList (xs := c.args), hx']
  split at hv
  · rename_i t' o' n m h1
    rw [h1] at rx
    cases hv
    simp only [VRel] at rx
    have : ∃ p q, a.eval x = .slice p n q := by
      rcases rx with ⟨rfl, y, hy⟩ | ⟨l, cap, _, hv, _⟩
      · exact ⟨_, _, hy⟩
      · exact ⟨_, _, hv⟩
    obtain ⟨p, q, hp⟩ := this
    exact ⟨.int .i64 n, by simp [execOp, ho, resolve, hc, invoke, builtin, Builtin.len_, ht, harg, hp, und_run hs, goInt], by simp only [VRel]⟩
  · rename_i n cs h1
    rw [h1] at rx
    cases hv
    simp only [VRel] at rx
    have : ∃ p q, a.eval x = .slice p n q := by
      rcases rx with ⟨rfl, y, hy⟩ | ⟨b, s, cap, xs, hv, _⟩
      · exact ⟨_, _, hy⟩
      · exact ⟨_, _, hv⟩
    obtain ⟨p, q, hp⟩ := this
    exact ⟨.int .i64 n, by simp [execOp, ho, resolve, hc, invoke, builtin, Builtin.len_, ht, harg, hp, und_run hs, goInt], by simp only [VRel]⟩
  · cases hv

theorem sound_mkf (ra : ARel N ι st a) {o : Oper} {f : Nat} {x y : Array Operand} (ho : o.op = .makeFunc (.func f) x y) {ax ay : List AX} (hx : toXs x = some ax) (hy : toXs y = some ay) :
    Sound P ι st a h w o (.mkf f ax ay) := by
  intro v hv
  simp only [AOp.ev, Option.some.injEq] at hv
  subst hv
  refine ⟨.func (.func f) (x.map a.eval) (y.map a.eval), by simp [execOp, ho, Instr.makeFunc], ?_⟩
  simp only [VRel]
  refine ⟨_, _, rfl, ?_, ?_⟩
  · rw [Array.toList_map]; exact toXs_sound ra hx
  · rw [Array.toList_map]; exact toXs_sound ra hy

theorem sound_ld (ra : ARel N ι st a) (rw' : WRel ι h w) {o : Oper} {t : TypeId} {x : Operand} (ho : o.op = .load t x) {n : Option Nat} (hn : ldOf P t = some n) {ax : AX} (hx : toX x = some ax) :
    Sound P ι st a h w o (.ld n ax) := by
  intro v hv
  simp only [AOp.ev] at hv
  have rx := toX_sound ra hx
  split at hv
  · rename_i t' o' ht
    rw [ht] at rx
    simp only [VRel] at rx
    obtain ⟨l, hl, hp⟩ := rx
    split at hv
    · rename_i cs hr
      obtain ⟨u, h1, h2⟩ := ld_sound (P := P) rw' hn hr hv hl
      exact ⟨u, by simp [execOp, ho, hp, Instr.loadAt, Instr.sureAddr, h1], h2⟩
    · cases hv
  · rename_i cs o' ht
    rw [ht] at rx
    simp only [VRel] at rx
    obtain ⟨b, s, xs, hp, hf, hr⟩ := rx
    obtain ⟨u, h1, h2⟩ := ld_phi (P := P) rw' hn hf hr hv
    exact ⟨u, by simp [execOp, ho, hp, Instr.loadAt, Instr.sureAddr, h1], h2⟩
  · cases hv

theorem run_equalIn_ptr (d : Nat) {t e : TypeId} (hu : P.underlying t = some (.pointer e)) (x y : Option Addr) (w : World) :
    (Op.equalIn (d + 1) t (.pointer none) (.pointer y)).run P w = .ok y.isNone w ∧ (Op.equalIn (d + 1) t (.pointer x) (.pointer none)).run P w = .ok x.isNone w := by
  constructor
  · simp [Op.equalIn, und_run hu]
  · cases x <;> simp [Op.equalIn, und_run hu]

theorem isNil_spec {x : AV} {t : Bool} (h : isNil x = some t) {v : Value} (r : VRel ι x v) : ∃ p : Option Addr, v = .pointer p ∧ p.isNone = t := by
  unfold isNil at h
  split at h <;> simp at h <;> subst h <;> simp only [VRel] at r
  · exact ⟨none, r, rfl⟩
  · obtain ⟨l, _, hv⟩ := r; exact ⟨_, hv, rfl⟩
  · obtain ⟨b, s, xs, hv, _⟩ := r; exact ⟨_, hv, rfl⟩

theorem sound_eqn (ra : ARel N ι st a) {o : Oper} {op : BinOp} {xt yt : TypeId} {x y : Operand} (ho : o.op = .binOp op xt x y yt) (hop : op = .eql ∨ op = .neq) {e : TypeId} (hs : P.underlying xt = some (.pointer e))
    {ax ay : AX} (hx : toX x = some ax) (hy : toX y = some ay) : Sound P ι st a h w o (.eqn (op == .neq) ax ay) := by
  intro v hv
  have rx := toX_sound ra hx
  have ry := toX_sound ra hy
  simp only [AOp.ev] at hv
  split at hv
  · rename_i t hx1 hy1
    cases hv
    obtain ⟨p, hp, hp'⟩ := isNil_spec hx1 rx
    obtain ⟨q, hq, hq'⟩ := isNil_spec hy1 ry
    have : p = none := by cases p <;> simp at hp' ⊢
    subst this
    subst hq'
    have h1 := (run_equalIn_ptr (P := P) 9999 hs none q w).1
    rcases hop with rfl | rfl
    · refine ⟨.bool q.isNone, ?_, by simp only [VRel]; cases q <;> rfl⟩
      simp [execOp, ho, hp, hq, eqGuard, binOp, Op.equal, Op.maxDepth, h1]
    · refine ⟨.bool !q.isNone, ?_, by simp only [VRel]; cases q <;> rfl⟩
      simp [execOp, ho, hp, hq, eqGuard, binOp, Op.equal, Op.maxDepth, h1]
  · rename_i hx1 hy1
    cases hv
    obtain ⟨p, hp, hp'⟩ := isNil_spec hx1 rx
    obtain ⟨q, hq, hq'⟩ := isNil_spec hy1 ry
    have : q = none := by cases q <;> simp at hq' ⊢
    subst this
    have h1 := (run_equalIn_ptr (P := P) 9999 hs p none w).2
    rw [hp'] at h1
    rcases hop with rfl | rfl
    · refine ⟨.bool false, ?_, by simp only [VRel]; rfl⟩
      simp [execOp, ho, hp, hq, eqGuard, binOp, Op.equal, Op.maxDepth, h1]
    · refine ⟨.bool true, ?_, by simp only [VRel]; rfl⟩
      simp [execOp, ho, hp, hq, eqGuard, binOp, Op.equal, Op.maxDepth, h1]
  · cases hv

theorem amm_sound {mx : Bool} : ∀ {xs : List AV} {us : List Value} {x v : AV} {u : Value}, amm mx x xs = some v → VRel ι x u → VRels ι xs us → (xs ≠ [] → ∃ k n, x = .i k n) →
    ∃ r, (us.foldlM (if mx then Builtin.max2 else Builtin.min2) u : Sem Value).run P w = .ok r w ∧ VRel ι v r
  | [], us, x, v, u, h, hr, hrs, _ => by
    simp only [VRels] at hrs; subst hrs
    simp only [amm, Option.some.injEq] at h; subst h
    exact ⟨u, by simp [List.foldlM], hr⟩
  | y :: ys, us, x, v, u, h, hr, hrs, hi => by
    obtain ⟨k, n, rfl⟩ := hi (by simp)
    simp only [VRels] at hrs
    obtain ⟨z, rs, rfl, h1, h2⟩ := hrs
    simp only [VRel] at hr
    subst hr
    cases y <;> simp only [amm, reduceCtorEq] at h
    rename_i k' m
    simp only [VRel] at h1
    subst h1
    split at h
    · rename_i hk
      subst hk
      obtain ⟨r, h3, h4⟩ := amm_sound (u := .int k (if mx then (if n < m then m else n) else (if m < n then m else n))) h (by simp only [VRel]) h2 (fun _ => ⟨_, _, rfl⟩)
      refine ⟨r, ?_, h4⟩
      cases mx <;> simpa [List.foldlM, Builtin.min2, Builtin.max2] using h3
    · cases h

theorem sound_mm (ra : ARel N ι st a) {o : Oper} {c : Call} (ho : o.op = .call c) {mx : Bool} (hc : c.callee = .builtin (if mx then .max else .min)) {x : Operand} {xs : List Operand} (hx' : c.args.toList = x :: xs)
    {ax : AX} {axs : List AX} (hx : toX x = some ax) (hxs : xs.mapM toX = some axs) : Sound P ι st a h w o (.mm mx ax axs) := by
  intro v hv
  simp only [AOp.ev] at hv
  have rx := toX_sound ra hx
  have rxs := toXs_sound ra hxs
  have hi : axs.map (AX.val st) ≠ [] → ∃ k n, ax.val st = .i k n := by
    intro hne
    generalize axs.map (AX.val st) = l at *
    generalize ax.val st = y at *
    match l, hne with
    | z :: zs, _ =>
      unfold amm at hv
      split at hv
      · rename_i h; cases h
      · exact ⟨_, _, rfl⟩
      · cases hv
  obtain ⟨r, h1, h2⟩ := amm_sound (P := P) (w := w) hv rx rxs hi
  refine ⟨r, ?_, h2⟩
  have hl : (Array.map a.eval c.args).toList = a.eval x :: xs.map a.eval := by simp [hx']
  cases mx
  · simp only [Bool.false_eq_true, if_false] at hc h1
    simp [execOp, ho, resolve, hc, invoke, builtin, Builtin.min_, hx', h1]
  · simp only [if_true] at hc h1
    simp [execOp, ho, resolve, hc, invoke, builtin, Builtin.max_, hx', h1]

theorem bound_sound (ra : ARel N ι st a) {d : Nat} {x : Option Operand} {ax : Option AX} (hx : toXo x = some ax) {n : Nat} (hb : bound (AX.val st) d ax = some n) :
    (x = none ∧ n = d) ∨ ∃ y k m, x = some y ∧ a.eval y = .int k m ∧ 0 ≤ m ∧ n = m.toNat := by
  cases x with
  | none =>
    simp only [toXo, Option.some.injEq] at hx; subst hx
    simp only [bound, Option.some.injEq] at hb
    exact .inl ⟨rfl, hb.symm⟩
  | some y =>
    simp only [toXo, Option.map_eq_some_iff] at hx
    obtain ⟨ay, hy, rfl⟩ := hx
    have ry := toX_sound ra hy
    simp only [bound] at hb
    split at hb
    · rename_i k m ht
      rw [ht] at ry
      simp only [VRel] at ry
      split at hb
      · rename_i h0
        cases hb
        exact .inr ⟨y, k, m, rfl, ry, h0, rfl⟩
      · cases hb
    · cases hb

theorem sliceBounds_run (isSlice : Bool) {n cap lo hi : Nat} {x y : Option Operand} (hn : n ≤ cap)
    (h1 : (x = none ∧ lo = 0) ∨ ∃ z k m, x = some z ∧ a.eval z = .int k m ∧ 0 ≤ m ∧ lo = m.toNat)
    (h2 : (y = none ∧ hi = n) ∨ ∃ z k m, y = some z ∧ a.eval z = .int k m ∧ 0 ≤ m ∧ hi = m.toNat) (hlh : lo ≤ hi) (hh : hi ≤ n) :
    (Instr.sliceBounds isSlice n cap (x.map a.eval) (y.map a.eval) none).run P w = .ok (lo, hi, cap) w := by
  rcases h1 with ⟨rfl, rfl⟩ | ⟨z, k, m, rfl, hz, h0, rfl⟩ <;> rcases h2 with ⟨rfl, rfl⟩ | ⟨z', k', m', rfl, hz', h0', rfl⟩
  · simp [Instr.sliceBounds]
  · have : m' ≤ (cap : Int) := by omega
    simp [Instr.sliceBounds, Instr.sliceBound, asIntOf, hz', h0', this]
  · have : m ≤ (hi : Int) := by omega
    simp [Instr.sliceBounds, Instr.sliceBound, asIntOf, hz, h0, this]
  · have h3 : m' ≤ (cap : Int) := by omega
    have h4 : m ≤ (m'.toNat : Int) := by omega
    simp [Instr.sliceBounds, Instr.sliceBound, asIntOf, hz, hz', h0, h0', h3]
    omega

theorem sound_sli (ra : ARel N ι st a) {o : Oper} {t : TypeId} {x : Operand} {lo hi : Option Operand} (ho : o.op = .slice t x lo hi none) {e : TypeId} (hs : P.underlying t = some (.slice e)) {k : Nat} (hk : szOf P e = some k)
    {ax : AX} (hx : toX x = some ax) {al ah : Option AX} (hl : toXo lo = some al) (hh : toXo hi = some ah) : Sound P ι st a h w o (.sli k ax al ah) := by
  intro v hv
  simp only [AOp.ev] at hv
  have rx := toX_sound ra hx
  split at hv
  · rename_i t' o' n m h1
    rw [h1] at rx
    simp only [VRel] at rx
    split at hv
    · rename_i l hh' hb1 hb2
      split at hv
      · rename_i hle
        cases hv
        have b1 := bound_sound ra hl hb1
        have b2 := bound_sound ra hh hb2
        rcases rx with ⟨rfl, y, hy⟩ | ⟨lc, cap, hlc, hy, hc, hcap⟩
        · have hr := sliceBounds_run (P := P) (w := w) true (Nat.le_refl 0) b1 b2 hle.1 hle.2
          have hl0 : l = 0 := by omega
          have hh0 : hh' = 0 := by omega
          subst hl0; subst hh0
          refine ⟨.slice y 0 0, by simp [execOp, ho, hy, Instr.sliceAt, Instr.slice, und_run hs, hr, szOf_run hk], ?_⟩
          simp only [VRel]
          exact Or.inl ⟨by first | trivial | omega, y, rfl⟩
        · have hr := sliceBounds_run (P := P) (w := w) true hc b1 b2 hle.1 hle.2
          refine ⟨.slice (if cap = l then some (⟨lc.b, lc.sh + o', none⟩ : Addr) else some (Addr.add ⟨lc.b, lc.sh + o', none⟩ (l * k))) (hh' - l) (cap - l), by simp [execOp, ho, hy, Instr.sliceAt, Instr.slice, und_run hs, hr, szOf_run hk], ?_⟩
          simp only [VRel]
          by_cases hcl : cap = l
          · left
            exact ⟨by omega, _, by rw [show hh' - l = 0 by omega, show cap - l = 0 by omega]⟩
          · right
            refine ⟨lc, cap - l, hlc, ?_, by omega, ?_⟩
            · rw [if_neg hcl]
              rw [Addr.add_eq, Nat.add_assoc]
            · split
              · rename_i hmk
                subst hmk
                rw [Nat.sub_mul]
                have : l * m ≤ cap * m := Nat.mul_le_mul_right m (by omega)
                rcases hcap with h0 | hcap
                · exact .inl h0
                · exact .inr (by omega)
              · exact .inl rfl
      · cases hv
    · cases hv
  · rename_i n cs h1
    rw [h1] at rx
    simp only [VRel] at rx
    split at hv
    · rename_i l hh' hb1 hb2
      split at hv
      · rename_i hle
        cases hv
        have b1 := bound_sound ra hl hb1
        have b2 := bound_sound ra hh hb2
        rcases rx with ⟨rfl, y, hy⟩ | ⟨b, s, cap, xs, hy, hc, hf, hr0⟩
        · have hr := sliceBounds_run (P := P) (w := w) true (Nat.le_refl 0) b1 b2 hle.1 hle.2
          have hl0 : l = 0 := by omega
          have hh0 : hh' = 0 := by omega
          subst hl0; subst hh0
          refine ⟨.slice y 0 0, by simp [execOp, ho, hy, Instr.sliceAt, Instr.slice, und_run hs, hr, szOf_run hk], ?_⟩
          simp only [VRel]
          exact Or.inl ⟨by first | trivial | omega, y, rfl⟩
        · have hr := sliceBounds_run (P := P) (w := w) true hc b1 b2 hle.1 hle.2
          refine ⟨.slice (if cap = l then some (⟨b, s, none⟩ : Addr) else some (Addr.add ⟨b, s, none⟩ (l * k))) (hh' - l) (cap - l), by simp [execOp, ho, hy, Instr.sliceAt, Instr.slice, und_run hs, hr, szOf_run hk], ?_⟩
          simp only [VRel]
          by_cases hcl : cap = l
          · left
            exact ⟨by omega, _, by rw [show hh' - l = 0 by omega, show cap - l = 0 by omega]⟩
          · right
            refine ⟨b, s + l * k, cap - l, xs, ?_, by omega, hf, ?_⟩
            · rw [if_neg hcl, Addr.add_eq]
            · have b1' : al = none → l = 0 := fun e => by subst e; simp only [bound, Option.some.injEq] at hb1; exact hb1.symm
              have b2' : ah = none → hh' = n := fun e => by subst e; simp only [bound, Option.some.injEq] at hb2; exact hb2.symm
              unfold vsub
              split
              · rw [b1' rfl, Nat.zero_mul, Nat.add_zero]; exact hr0
              · exact Lies.drop hr0 _
              · rw [b1' rfl, Nat.zero_mul, Nat.add_zero]; exact Lies.take hr0 _
              · exact Lies.take (Lies.drop hr0 _) _
      · cases hv
    · cases hv
  · cases hv

theorem sound_slp (ra : ARel N ι st a) {o : Oper} {t : TypeId} {x : Operand} {lo hi : Option Operand} (ho : o.op = .slice t x lo hi none) {n : Nat} {e : TypeId} (hs : P.underlying t = some (.array n e)) {k : Nat} (hk : szOf P e = some k)
    {ax : AX} (hx : toX x = some ax) {al ah : Option AX} (hl : toXo lo = some al) (hh : toXo hi = some ah) : Sound P ι st a h w o (.slp n k ax al ah) := by
  intro v hv
  simp only [AOp.ev] at hv
  have rx := toX_sound ra hx
  split at hv
  · rename_i t' o' h1
    rw [h1] at rx
    simp only [VRel] at rx
    obtain ⟨lc, hlc, hy⟩ := rx
    split at hv
    · rename_i l hh' hb1 hb2
      split at hv
      · rename_i hle
        cases hv
        have b1 := bound_sound ra hl hb1
        have b2 := bound_sound ra hh hb2
        have hr := sliceBounds_run (P := P) (w := w) false (Nat.le_refl n) b1 b2 hle.1 hle.2
        refine ⟨.slice (some (if n = l then ⟨lc.b, lc.sh + o', none⟩ else Addr.add ⟨lc.b, lc.sh + o', none⟩ (l * k))) (hh' - l) (n - l), by simp [execOp, ho, hy, Instr.sliceAt, Instr.sureAddr, und_run hs, hr, szOf_run hk], ?_⟩
        simp only [VRel]
        by_cases hcl : n = l
        · left
          exact ⟨by omega, _, by rw [show hh' - l = 0 by omega, show n - l = 0 by omega]⟩
        · right
          refine ⟨lc, n - l, hlc, ?_, by omega, .inl (by trivial)⟩
          rw [if_neg hcl, Addr.add_eq, Nat.add_assoc]
      · cases hv
    · cases hv
  · rename_i cs o' h1
    rw [h1] at rx
    simp only [VRel] at rx
    obtain ⟨b, s, xs, hy, hf, hr0⟩ := rx
    split at hv
    · rename_i l hh' hb1 hb2
      split at hv
      · rename_i hle
        cases hv
        have b1 := bound_sound ra hl hb1
        have b2 := bound_sound ra hh hb2
        have hr := sliceBounds_run (P := P) (w := w) false (Nat.le_refl n) b1 b2 hle.1 hle.2
        refine ⟨.slice (some (if n = l then ⟨b, s + o', none⟩ else Addr.add ⟨b, s + o', none⟩ (l * k))) (hh' - l) (n - l), by simp [execOp, ho, hy, Instr.sliceAt, Instr.sureAddr, und_run hs, hr, szOf_run hk], ?_⟩
        simp only [VRel]
        by_cases hcl : n = l
        · left
          exact ⟨by omega, _, by rw [show hh' - l = 0 by omega, show n - l = 0 by omega]⟩
        · right
          refine ⟨b, s + (o' + l * k), n - l, xs, ?_, by omega, hf, Lies.take (Lies.drop hr0 _) _⟩
          rw [if_neg hcl, Addr.add_eq, Nat.add_assoc]
      · cases hv
    · cases hv
  · cases hv
end
end Go.Am
