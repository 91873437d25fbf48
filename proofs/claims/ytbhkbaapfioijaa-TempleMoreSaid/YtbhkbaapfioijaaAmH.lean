/- The abstract machine: how an operation is read; all operations of one kind at once. -/
import Derived.Test.YtbhkbaapfioijaaAmGb
set_option linter.unusedVariables false
set_option linter.unusedSimpArgs false
namespace Go.Am

/-- What it means that an operation of the model is read as an abstract one. -/
inductive OfR (P : Program) : Op → AOp → Prop
  | move {x ax} (hx : toX x = some ax) : OfR P (.move x) (.mv ax)
  | assign {x ax} (hx : toX x = some ax) : OfR P (.assign x) (.mv ax)
  | pick {c x y ac ax ay} (hc : toX c = some ac) (hx : toX x = some ax) (hy : toX y = some ay) : OfR P (.pick c x y) (.pick ac ax ay)
  | bin {op xt yt x y b ax ay} (hb : b = true → P.underlying xt = some .bool) (hx : toX x = some ax) (hy : toX y = some ay) : OfR P (.binOp op xt x y yt) (.bin b op ax ay)
  | eqn {op xt yt x y e ax ay} (hq : op = .eql ∨ op = .neq) (hu : P.underlying xt = some (.pointer e)) (hx : toX x = some ax) (hy : toX y = some ay) : OfR P (.binOp op xt x y yt) (.eqn (op == .neq) ax ay)
  | eqa {op xt yt x y ks ax ay} (hq : op = .eql ∨ op = .neq) (hf : flatEq P 8 xt = some ks) (hag : aggOf P xt = some true) (hgd : P.eqGuardType P.depth xt = false) (hx : toX x = some ax) (hy : toX y = some ay) : OfR P (.binOp op xt x y yt) (.eqa (op == .neq) ks ax ay)
  | eqs {op xt yt x y ax ay} (hq : op = .eql ∨ op = .neq) (hx : toX x = some ax) (hy : toX y = some ay) : OfR P (.binOp op xt x y yt) (.eqs (op == .neq) ax ay)
  | str {s d x e ax} (hs : P.underlying s = some (.slice e)) (he : P.underlying e = some (.int .u8)) (hd : P.underlying d = some .string) (hx : toX x = some ax) : OfR P (.convert s d x) (.str ax)
  | cvt {s d x e e' ax} (hsd : s = d) (hs : P.underlying s = some (.slice e')) (hd : P.underlying d = some (.slice e)) (he : P.underlying e = some (.int .u8)) (hx : toX x = some ax) : OfR P (.convert s d x) (.cvt ax)
  | eqz {op xt yt x e ax} (hq : op = .eql ∨ op = .neq) (hu : P.underlying xt = some (.slice e)) (hx : toX x = some ax) : OfR P (.binOp op xt x (.const (.slice none 0 0)) yt) (.eqz (op == .neq) ax)
  | byt {s d x e ax} (hs : P.underlying s = some .string) (hd : P.underlying d = some (.slice e)) (he : P.underlying e = some (.int .u8)) (hx : toX x = some ax) : OfR P (.convert s d x) (.byt ax)
  | sl3 {t x lo hi mx e k ax al ah am} (hs : P.underlying t = some (.slice e)) (hk : szOf P e = some k) (hx : toX x = some ax) (hl : toXo lo = some al) (hh : toX hi = some ah) (hm : toX mx = some am) : OfR P (.slice t x lo (some hi) (some mx)) (.sl3 k ax al ah am)
  | neg {t x ax} (hx : toX x = some ax) : OfR P (.unOp .neg t x) (.neg ax)
  | not {t x ax} (hx : toX x = some ax) : OfR P (.unOp .not t x) (.not ax)
  | conv {s d x ks k ax} (hs : P.underlying s = some (.int ks)) (hd : P.underlying d = some (.int k)) (hx : toX x = some ax) : OfR P (.convert s d x) (.conv k ax)
  | ext {x i ax} (hx : toX x = some ax) : OfR P (.extract x i) (.ext ax i)
  | fa {s x f fs fl n ax} (hs : P.underlying s = some (.struct fs)) (hfl : fs[f]? = some fl) (hn : szOf P fl.type = some n) (h0 : n ≠ 0) (hx : toX x = some ax) : OfR P (.fieldAddr s x f) (.fa ax fl.offset)
  | fld {s x f fs fl n ax} (hs : P.underlying s = some (.struct fs)) (hfl : fs[f]? = some fl) (hn : ldOf P fl.type = some n) (hx : toX x = some ax) : OfR P (.field s x f) (.fld ax fl.offset n)
  | ia {t x i e k ax ai} (hs : P.underlying t = some (.slice e)) (hk : szOf P e = some k) (hx : toX x = some ax) (hi : toX i = some ai) : OfR P (.indexAddr t x i) (.ia k ax ai)
  | iap {t x i n e k ax ai} (hs : P.underlying t = some (.array n e)) (hk : szOf P e = some k) (hx : toX x = some ax) (hi : toX i = some ai) : OfR P (.indexAddr t x i) (.iap n k ax ai)
  | iv {t x i n e k g ax ai} (hs : P.underlying t = some (.array n e)) (hk : szOf P e = some k) (hg : aggOf P e = some g) (hk1 : g = false → k = 1) (hx : toX x = some ax) (hi : toX i = some ai) : OfR P (.index t x i) (.iv n k g ax ai)
  | sli {t x lo hi e k ax al ah} (hs : P.underlying t = some (.slice e)) (hk : szOf P e = some k) (hx : toX x = some ax) (hl : toXo lo = some al) (hh : toXo hi = some ah) : OfR P (.slice t x lo hi none) (.sli k ax al ah)
  | slp {t x lo hi n e k ax al ah} (hs : P.underlying t = some (.array n e)) (hk : szOf P e = some k) (hx : toX x = some ax) (hl : toXo lo = some al) (hh : toXo hi = some ah) : OfR P (.slice t x lo hi none) (.slp n k ax al ah)
  | nck {x ax} (hx : toX x = some ax) : OfR P (.nilCheck x) (.nck ax)
  | ld {t x n ax} (hn : ldOf P t = some n) (hx : toX x = some ax) : OfR P (.load t x) (.ld n ax)
  | bldS {t parts fs z ps} (hs : P.underlying t = some (.struct fs)) (hz : zeroOf P t = some z) (hall : ∀ fl ∈ fs.toList, (szOf P fl.type).isSome)
      (hps : parts.toList.mapM (fun (p : Nat × Operand) => do let fl ← fs[p.1]?; some (fl.offset, ← szOf P fl.type, ← toX p.2)) = some ps) : OfR P (.build t parts) (.bld z ps)
  | bldA {t parts n e z k ps} (hs : P.underlying t = some (.array n e)) (hz : zeroOf P t = some z) (hk : szOf P e = some k)
      (hps : parts.toList.mapM (fun (p : Nat × Operand) => do some (p.1 * k, k, ← toX p.2)) = some ps) : OfR P (.build t parts) (.bld z ps)
  | mkf {f x y ax ay} (hx : toXs x = some ax) (hy : toXs y = some ay) : OfR P (.makeFunc (.func f) x y) (.mkf f ax ay)
  | len {c t x e ax} (hc : c.callee = .builtin .len) (ht : c.argTypes[0]? = some t) (hx' : c.args.toList = [x]) (hs : P.underlying t = some (.slice e)) (hx : toX x = some ax) : OfR P (.call c) (.len ax)
  | mm {c x xs ax axs} (mx : Bool) (hc : c.callee = .builtin (if mx then .max else .min)) (hx' : c.args.toList = x :: xs) (hx : toX x = some ax) (hxs : xs.mapM toX = some axs) : OfR P (.call c) (.mm mx ax axs)
  | app {c t u x y e e' k b z ax ay} (hc : c.callee = .builtin .append) (hat : c.argTypes.toList = [t, u]) (har : c.args.toList = [x, y]) (ht : P.underlying t = some (.slice e)) (hu : P.underlying u = some (.slice e'))
      (hk : szOf P e = some k) (hb : (P.info? e).map (·.bytes) = some b) (hz : zeroOf P e = some z) (hzl : z.length = k) (hx : toX x = some ax) (hy : toX y = some ay) : OfR P (.call c) (.app k b ax ay)
  | call {c f af axs} (hc : c.callee = .value f) (hf : toX f = some af) (hxs : toXs c.args = some axs) : OfR P (.call c) (.call af axs)
  | box {e x ax} (hx : toX x = some ax) : OfR P (.box e x) (.box ax)
  | alloc {e z} (hz : zeroOf P e = some z) : OfR P (.alloc e) (.alloc z)
  | bsl {t n parts e z k ps} (hs : P.underlying t = some (.slice e)) (hz : zeroOf P e = some z) (hk : szOf P e = some k) (hk0 : k ≠ 0) (hzk : z.length = k) (hn : n * k ≤ 16777216)
      (hps : parts.toList.mapM (fun (p : Nat × Operand) => do some (p.1 * k, k, ← toX p.2)) = some ps) : OfR P (.buildSlice t n parts) (.bsl k (List.replicate n z).flatten ps)
  | mks {t x y e z k b ax ay} (hs : P.underlying t = some (.slice e)) (hz : zeroOf P e = some z) (hk : szOf P e = some k) (hk0 : k ≠ 0) (hzk : z.length = k) (hb : (P.info? e).map (·.bytes) = some b) (hx : toX x = some ax) (hy : toX y = some ay) :
      OfR P (.makeSlice t x y) (.mks k b z ax ay)
  | mkm {t} : OfR P (.makeMap t none) .mkm
  | mlk {t kt e x i ok kk z ax ai} (ht : P.underlying t = some (.map kt e)) (hk : keyK P kt = some kk) (hz : zeroV P e = some z) (hx : toX x = some ax) (hi : toX i = some ai) : OfR P (.lookup t x i ok) (.mlk kk z ok ax ai)
  | mup {t kt e x k v kk ax ak av} (ht : P.underlying t = some (.map kt e)) (hk : keyK P kt = some kk) (hx : toX x = some ax) (hi : toX k = some ak) (hv : toX v = some av) : OfR P (.mapUpdate t x k v) (.mup kk ax ak av)
  | ins {t kt e x k v kk ax ak av} (ht : P.underlying t = some (.map kt e)) (hk : keyK P kt = some kk) (hx : toX x = some ax) (hi : toX k = some ak) (hv : toX v = some av) : OfR P (.insert t x k v) (.mup kk ax ak av)
  | mln {c t x kt e ax} (hc : c.callee = .builtin .len) (ht : c.argTypes[0]? = some t) (hx' : c.args.toList = [x]) (hs : P.underlying t = some (.map kt e)) (hx : toX x = some ax) : OfR P (.call c) (.mln ax)
  | sto {t x v n ax av} (hn : ldOf P t = some n) (hx : toX x = some ax) (hv : toX v = some av) : OfR P (.store t x v) (.sto n ax av)

theorem of_R {P : Program} {op : Op} {ao : AOp} (hao : AOp.of P op = some ao) : OfR P op ao := by
  cases op <;> simp only [AOp.of, reduceCtorEq] at hao
  case move x =>
    simp only [Option.bind_eq_bind, Option.bind_eq_some_iff, Option.some.injEq] at hao
    obtain ⟨ax, hx, rfl⟩ := hao
    exact .move hx
  case assign x =>
    simp only [Option.bind_eq_bind, Option.bind_eq_some_iff, Option.some.injEq] at hao
    obtain ⟨ax, hx, rfl⟩ := hao
    exact .assign hx
  case pick c x y =>
    simp only [Option.bind_eq_bind, Option.bind_eq_some_iff, Option.some.injEq] at hao
    obtain ⟨ac, hc, ax, hx, ay, hy, rfl⟩ := hao
    exact .pick hc hx hy
  case binOp op xt x y yt =>
    have plain : ∀ {b : Bool} {ao : AOp}, (b = true → P.underlying xt = some .bool) → (do some (AOp.bin b op (← toX x) (← toX y))) = some ao → OfR P (.binOp op xt x y yt) ao := by
      intro b ao hb hq
      simp only [Option.bind_eq_bind, Option.bind_eq_some_iff, Option.some.injEq] at hq
      obtain ⟨ax, hx, ay, hy, rfl⟩ := hq
      exact .bin hb hx hy
    have eqs : (op = .eql ∨ op = .neq) → (match P.underlying xt with
      | some .bool => do some (AOp.bin true op (← toX x) (← toX y))
      | some (.int _) => do some (AOp.bin false op (← toX x) (← toX y))
      | some (.pointer e) => do if (← szOf P e) = 0 then none else some (AOp.eqn (op == .neq) (← toX x) (← toX y))
      | some .string => do some (.eqs (op == .neq) (← toX x) (← toX y))
      | some (.struct _) | some (.array _ _) => do
        let ks ← flatEq P 8 xt
        if P.eqGuardType P.depth xt = false then some (.eqa (op == .neq) ks (← toX x) (← toX y)) else none
      | some (.slice _) => do if nilSl y = true then some (.eqz (op == .neq) (← toX x)) else none
      | _ => none) = some ao → OfR P (.binOp op xt x y yt) ao := by
      intro hq hm
      split at hm
      · rename_i hu; exact plain (fun _ => hu) hm
      · exact plain (fun hf => by cases hf) hm
      · rename_i e hu
        simp only [Option.bind_eq_bind, Option.bind_eq_some_iff] at hm
        obtain ⟨n, hn, hm⟩ := hm
        split at hm
        · cases hm
        · simp only [Option.bind_eq_some_iff, Option.some.injEq] at hm
          obtain ⟨ax, hx, ay, hy, rfl⟩ := hm
          exact .eqn hq hu hx hy
      · simp only [Option.bind_eq_bind, Option.bind_eq_some_iff, Option.some.injEq] at hm
        obtain ⟨ax, hx, ay, hy, rfl⟩ := hm
        exact .eqs hq hx hy
      · rename_i fs hu
        simp only [Option.bind_eq_bind, Option.bind_eq_some_iff] at hm
        obtain ⟨ks, hf, hm⟩ := hm
        split at hm
        · rename_i hgd
          simp only [Option.bind_eq_some_iff, Option.some.injEq] at hm
          obtain ⟨ax, hx, ay, hy, rfl⟩ := hm
          exact .eqa hq hf (by simp [aggOf, hu]) hgd hx hy
        · cases hm
      · rename_i n e hu
        simp only [Option.bind_eq_bind, Option.bind_eq_some_iff] at hm
        obtain ⟨ks, hf, hm⟩ := hm
        split at hm
        · rename_i hgd
          simp only [Option.bind_eq_some_iff, Option.some.injEq] at hm
          obtain ⟨ax, hx, ay, hy, rfl⟩ := hm
          exact .eqa hq hf (by simp [aggOf, hu]) hgd hx hy
        · cases hm
      · rename_i e hu
        split at hm
        · rename_i hy
          simp only [Option.bind_eq_bind, Option.bind_eq_some_iff, Option.some.injEq] at hm
          obtain ⟨ax, hx, rfl⟩ := hm
          rw [nilSl_eq hy]
          exact .eqz hq hu hx
        · cases hm
      · cases hm
    cases op
    case eql => exact eqs (.inl rfl) hao
    case neq => exact eqs (.inr rfl) hao
    all_goals exact plain (fun hf => by cases hf) hao
  case unOp op t x =>
    cases op <;> simp only [Option.bind_eq_bind, Option.bind_eq_some_iff, Option.some.injEq, reduceCtorEq] at hao
    · obtain ⟨ax, hx, rfl⟩ := hao; exact .neg hx
    · obtain ⟨ax, hx, rfl⟩ := hao; exact .not hx
  case convert s d x =>
    split at hao
    · rename_i ks k hs hd
      simp only [Option.bind_eq_bind, Option.bind_eq_some_iff, Option.some.injEq] at hao
      obtain ⟨ax, hx, rfl⟩ := hao
      exact .conv hs hd hx
    · rename_i e hs hd
      split at hao
      · rename_i he
        simp only [Option.bind_eq_bind, Option.bind_eq_some_iff, Option.some.injEq] at hao
        obtain ⟨ax, hx, rfl⟩ := hao
        exact .str hs he hd hx
      · cases hao
    · rename_i e hs hd
      split at hao
      · rename_i he
        simp only [Option.bind_eq_bind, Option.bind_eq_some_iff, Option.some.injEq] at hao
        obtain ⟨ax, hx, rfl⟩ := hao
        exact .byt hs hd he hx
      · cases hao
    · rename_i e' e hs hd
      split at hao
      · rename_i he
        simp only [Option.bind_eq_bind] at hao
        split at hao
        · rename_i hsd
          simp only [Option.bind_eq_some_iff, Option.some.injEq] at hao
          obtain ⟨ax, hx, rfl⟩ := hao
          exact .cvt (by simpa using hsd) hs hd he hx
        · cases hao
      · cases hao
    · cases hao
  case extract t i =>
    simp only [Option.bind_eq_bind, Option.bind_eq_some_iff, Option.some.injEq] at hao
    obtain ⟨ax, hx, rfl⟩ := hao
    exact .ext hx
  case fieldAddr s x f =>
    split at hao
    · rename_i fs hs
      split at hao
      · rename_i fl hfl
        simp only [Option.bind_eq_bind, Option.bind_eq_some_iff] at hao
        obtain ⟨n, hn, hao⟩ := hao
        split at hao
        · cases hao
        · rename_i h0
          simp only [Option.bind_eq_some_iff, Option.some.injEq] at hao
          obtain ⟨ax, hx, rfl⟩ := hao
          exact .fa hs hfl hn h0 hx
      · cases hao
    · cases hao
  case field s x f =>
    split at hao
    · rename_i fs hs
      split at hao
      · rename_i fl hfl
        simp only [Option.bind_eq_bind, Option.bind_eq_some_iff, Option.some.injEq] at hao
        obtain ⟨ax, hx, n, hn, rfl⟩ := hao
        exact .fld hs hfl hn hx
      · cases hao
    · cases hao
  case indexAddr t x i =>
    split at hao
    · rename_i e hs
      simp only [Option.bind_eq_bind, Option.bind_eq_some_iff, Option.some.injEq] at hao
      obtain ⟨k, hk, ax, hx, ai, hi, rfl⟩ := hao
      exact .ia hs hk hx hi
    · rename_i n e hs
      simp only [Option.bind_eq_bind, Option.bind_eq_some_iff, Option.some.injEq] at hao
      obtain ⟨k, hk, ax, hx, ai, hi, rfl⟩ := hao
      exact .iap hs hk hx hi
    · cases hao
  case index t x i =>
    split at hao
    · rename_i n e hs
      simp only [Option.bind_eq_bind, Option.bind_eq_some_iff] at hao
      obtain ⟨g, hg, k, hk, hao⟩ := hao
      split at hao
      · cases hao
      · rename_i hc
        simp only [Option.bind_eq_some_iff, Option.some.injEq] at hao
        obtain ⟨ax, hx, ai, hi, rfl⟩ := hao
        exact .iv hs hk hg (fun hg0 => Classical.byContradiction fun hk1 => hc ⟨hg0, hk1⟩) hx hi
    · cases hao
  case slice t x lo hi mx =>
    cases mx with
    | some m =>
      cases hi with
      | none => simp at hao
      | some hi =>
      simp only at hao
      split at hao
      · rename_i e hs
        simp only [Option.bind_eq_bind, Option.bind_eq_some_iff, Option.some.injEq] at hao
        obtain ⟨k, hk, ax, hx, al, hl, ah, hh, am, hm, rfl⟩ := hao
        exact .sl3 hs hk hx hl hh hm
      · cases hao
    | none =>
      simp only at hao
      split at hao
      · rename_i e hs
        simp only [Option.bind_eq_bind, Option.bind_eq_some_iff, Option.some.injEq] at hao
        obtain ⟨k, hk, ax, hx, al, hl, ah, hh, rfl⟩ := hao
        exact .sli hs hk hx hl hh
      · rename_i n e hs
        simp only [Option.bind_eq_bind, Option.bind_eq_some_iff, Option.some.injEq] at hao
        obtain ⟨k, hk, ax, hx, al, hl, ah, hh, rfl⟩ := hao
        exact .slp hs hk hx hl hh
      · cases hao
  case nilCheck x =>
    simp only [Option.bind_eq_bind, Option.bind_eq_some_iff, Option.some.injEq] at hao
    obtain ⟨ax, hx, rfl⟩ := hao
    exact .nck hx
  case load t x =>
    simp only [Option.bind_eq_bind, Option.bind_eq_some_iff, Option.some.injEq] at hao
    obtain ⟨n, hn, ax, hx, rfl⟩ := hao
    exact .ld hn hx
  case build t parts =>
    split at hao
    · rename_i fs hs
      simp only [Option.bind_eq_bind, Option.bind_eq_some_iff] at hao
      obtain ⟨z, hz, ps, hps, hao⟩ := hao
      split at hao
      · rename_i hall
        cases hao
        exact .bldS hs hz (fun fl hfl => List.all_eq_true.1 hall fl hfl) hps
      · cases hao
    · rename_i n e hs
      simp only [Option.bind_eq_bind, Option.bind_eq_some_iff, Option.some.injEq] at hao
      obtain ⟨z, hz, k, hk, ps, hps, rfl⟩ := hao
      exact .bldA hs hz hk hps
    · cases hao
  case makeMap t r =>
    cases r <;> simp only [Option.some.injEq, reduceCtorEq] at hao
    subst hao
    exact .mkm
  case lookup t x i ok =>
    split at hao
    · rename_i k e hs
      simp only [Option.bind_eq_bind, Option.bind_eq_some_iff, Option.some.injEq] at hao
      obtain ⟨kk, hk, z, hz, ax, hx, ai, hi, rfl⟩ := hao
      exact .mlk hs hk hz hx hi
    · cases hao
  case mapUpdate t m k x =>
    split at hao
    · rename_i kt e hs
      simp only [Option.bind_eq_bind, Option.bind_eq_some_iff, Option.some.injEq] at hao
      obtain ⟨kk, hk, ax, hx, ai, hi, av, hv, rfl⟩ := hao
      exact .mup hs hk hx hi hv
    · cases hao
  case insert t m k x =>
    split at hao
    · rename_i kt e hs
      simp only [Option.bind_eq_bind, Option.bind_eq_some_iff, Option.some.injEq] at hao
      obtain ⟨kk, hk, ax, hx, ai, hi, av, hv, rfl⟩ := hao
      exact .ins hs hk hx hi hv
    · cases hao
  case makeFunc fn x y =>
    cases fn <;> simp only [Option.bind_eq_bind, Option.bind_eq_some_iff, Option.some.injEq, reduceCtorEq] at hao
    obtain ⟨ax, hx, ay, hy, rfl⟩ := hao
    exact .mkf hx hy
  case call c =>
    unfold AOp.ofCall at hao
    split at hao
    · rename_i f hc
      simp only [Option.bind_eq_bind, Option.bind_eq_some_iff, Option.some.injEq] at hao
      obtain ⟨_, hf, _, hxs, rfl⟩ := hao
      exact .call hc hf hxs
    · rename_i hc
      split at hao
      · rename_i t x ht hx'
        split at hao
        · rename_i e hs
          simp only [Option.bind_eq_bind, Option.bind_eq_some_iff, Option.some.injEq] at hao
          obtain ⟨ax, hx, rfl⟩ := hao
          exact .len hc ht hx' hs hx
        · rename_i k e hs
          simp only [Option.bind_eq_bind, Option.bind_eq_some_iff, Option.some.injEq] at hao
          obtain ⟨ax, hx, rfl⟩ := hao
          exact .mln hc ht hx' hs hx
        · cases hao
      · cases hao
    · rename_i hc
      split at hao
      · rename_i x xs hx'
        simp only [Option.bind_eq_bind, Option.bind_eq_some_iff, Option.some.injEq] at hao
        obtain ⟨ax, hx, axs, hxs, rfl⟩ := hao
        exact .mm false hc hx' hx hxs
      · cases hao
    · rename_i hc
      split at hao
      · rename_i x xs hx'
        simp only [Option.bind_eq_bind, Option.bind_eq_some_iff, Option.some.injEq] at hao
        obtain ⟨ax, hx, axs, hxs, rfl⟩ := hao
        exact .mm true hc hx' hx hxs
      · cases hao
    · rename_i hc
      split at hao
      · rename_i t u x y hat har
        split at hao
        · rename_i e e' ht hu
          simp only [Option.bind_eq_bind, Option.bind_eq_some_iff] at hao
          obtain ⟨z, hz, k, hk, hao⟩ := hao
          split at hao
          · cases hao
          · rename_i hzl
            simp only [Option.bind_eq_some_iff, Option.some.injEq] at hao
            obtain ⟨b, hb, ax, hx, ay, hy, rfl⟩ := hao
            exact .app hc hat har ht hu hk hb hz (Classical.not_not.1 hzl) hx hy
        · cases hao
      · cases hao
    · cases hao
  case alloc e =>
    simp only [Option.bind_eq_bind, Option.bind_eq_some_iff, Option.some.injEq] at hao
    obtain ⟨_, hz, rfl⟩ := hao
    exact .alloc hz
  case box e x =>
    simp only [Option.bind_eq_bind, Option.bind_eq_some_iff, Option.some.injEq] at hao
    obtain ⟨_, hx, rfl⟩ := hao
    exact .box hx
  case store t x y =>
    simp only [Option.bind_eq_bind, Option.bind_eq_some_iff, Option.some.injEq] at hao
    obtain ⟨_, hn, _, hx, _, hv, rfl⟩ := hao
    exact .sto hn hx hv
  case buildSlice t n ps =>
    split at hao
    · rename_i e hs
      simp only [Option.bind_eq_bind, Option.bind_eq_some_iff] at hao
      obtain ⟨k, hk, z, hz, ps', hps, hao⟩ := hao
      split at hao
      · rename_i hc
        cases hao
        exact .bsl hs hz hk hc.1 hc.2.1 hc.2.2 hps
      · cases hao
    · cases hao
  case makeSlice t l c =>
    split at hao
    · rename_i e hs
      simp only [Option.bind_eq_bind, Option.bind_eq_some_iff] at hao
      obtain ⟨k, hk, z, hz, b, hb, hao⟩ := hao
      split at hao
      · rename_i hc
        simp only [Option.bind_eq_some_iff, Option.some.injEq] at hao
        obtain ⟨ax, hx, ay, hy, rfl⟩ := hao
        exact .mks hs hz hk hc.1 hc.2 hb hx hy
      · cases hao
    · cases hao

section
variable {P : Program} {N : Nat} {ι : Inj} {st : St} {a : Act} {h : AH} {w : World}

/-- EVERY operation that yields a value. -/
theorem sound_all (ra : ARel N ι st a) (rw' : WRel ι h w) {o : Oper} {ao : AOp} (hao : OfR P o.op ao) : Sound P ι st a h w o ao := by
  generalize hop : o.op = op at hao
  cases hao with
  | move hx => exact sound_mv ra (.inl hop) hx
  | assign hx => exact sound_mv ra (.inr hop) hx
  | pick hc hx hy => exact sound_pick ra hop hc hx hy
  | bin hb hx hy => exact sound_bin ra hop hx hy hb
  | eqn hq hu hx hy => exact sound_eqn ra hop hq hu hx hy
  | eqa hq hf hag hgd hx hy => exact sound_eqa ra hop hq hf hag hgd hx hy
  | eqs hq hx hy => exact sound_eqs ra hop hq hx hy
  | str hs he hd hx => exact sound_str ra rw' hop hs he hd hx
  | sl3 hs hk hx hl hh hm => exact sound_sl3 ra hop hs hk hx hl hh hm
  | neg hx => exact sound_neg ra hop hx
  | not hx => exact sound_not ra hop hx
  | conv hs hd hx => exact sound_conv ra hop hs hd hx
  | ext hx => exact sound_ext ra hop hx
  | fa hs hfl hn h0 hx => exact sound_fa ra hop hs hfl hn h0 hx
  | fld hs hfl hn hx => exact sound_fld ra hop hs hfl hn hx
  | ia hs hk hx hi => exact sound_ia ra hop hs hk hx hi
  | iap hs hk hx hi => exact sound_iap ra hop hs hk hx hi
  | iv hs hk hg hk1 hx hi => exact sound_iv ra hop hs hk hg hk1 hx hi
  | sli hs hk hx hl hh => exact sound_sli ra hop hs hk hx hl hh
  | slp hs hk hx hl hh => exact sound_slp ra hop hs hk hx hl hh
  | nck hx => exact sound_nck ra hop hx
  | ld hn hx => exact sound_ld ra rw' hop hn hx
  | bldS hs hz hall hps => exact sound_bld_struct ra hop hs hz hall hps
  | bldA hs hz hk hps => exact sound_bld_array ra hop hs hz hk hps
  | mkf hx hy => exact sound_mkf ra hop hx hy
  | len hc ht hx' hs hx => exact sound_len ra hop hc ht hx' hs hx
  | mm mx hc hx' hx hxs => exact sound_mm ra hop hc hx' hx hxs
  | mlk ht hk hz hx hi => exact sound_mlk ra rw' hop ht hk hz hx hi
  | mln hc ht hx' hs hx => exact sound_mln ra rw' hop hc ht hx' hs hx
  | _ => intro v hv; simp [AOp.ev] at hv

/-- EVERY operation that makes a block. -/
theorem soundAl_all (ra : ARel N ι st a) {o : Oper} {ao : AOp} (hao : OfR P o.op ao) : SoundAl P ι st a w o ao := by
  generalize hop : o.op = op at hao
  cases hao with
  | box hx => exact sound_box ra hop hx
  | alloc hz => exact sound_alloc hop hz
  | bsl hs hz hk hk0 hzk hn hps => exact sound_bsl ra hop hs hz hk hk0 hzk hn hps
  | mks hs hz hk hk0 hzk hb hx hy => exact sound_mks ra hop hs hz hk hk0 hzk hb hx hy
  | _ => intro tok v cs hv; simp [AOp.al] at hv
end
end Go.Am
