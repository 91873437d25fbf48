/- The abstract machine: stretches with calls, reckoned; what is asked of the calls is gathered. -/
import Derived.Test.YtbhkbaapfioijaaAmQ
set_option linter.unusedVariables false
set_option linter.unusedSimpArgs false
namespace Go.Am

/-- what the calls yield: by the operation's number -/
abbrev Orc := List (Nat × AV × Option (List AV))
def olk : Orc → Nat → AV × Option (List AV)
  | [], _ => (.un, none)
  | (i, v) :: r, j => if j = i then v else olk r j

def stepX (P : Program) (hb : Option AH) (orc : Orc) (base i : Nat) (o : AOper) (st : St) (h : AH) (O : Prop) : Option (St × AH × Prop) :=
  match o.op with
  | .call f args => match o.g with
    | none => match f.val st with
      | .fn fid fst caps => some (put o.d (olk orc i).1 st, setNb h (base + i) (olk orc i).2, O ∧ okCall P (base + i) (hb.getD h) fid (fst ++ args.map (AX.val st) ++ caps) (olk orc i).1 (olk orc i).2)
      | _ => none
    | some (s, want) => match guardOf (st.get s) want with
      | some g => match f.val (stS g st) with
        | .fn fid fst caps => some (put o.d (.gd g (olk orc i).1) st, h, O ∧ (g = true → ACalls P fid (fst ++ args.map (AX.val (stS g st)) ++ caps) (hb.getD h) fun r h' => r = (olk orc i).1 ∧ h' = hb.getD h))
        | _ => none
      | none => none
  | _ => (stepO (base + i) o st h).map fun p => (p.1, p.2, O)
def runC (P : Program) (hb : Option AH) (orc : Orc) (base : Nat) : List AOper → Nat → Option (St × AH × Prop) → Option (St × AH × Prop)
  | [], _, s => s
  | _ :: _, _, none => none
  | o :: os, i, some (st, h, O) => runC P hb orc base os (i + 1) (stepX P hb orc base i o st h O)

section
variable {P : Program} {orc : Orc} {base : Nat}
theorem runC_none {hb : Option AH} : ∀ (os : List AOper) (i : Nat), runC P hb orc base os i none = none
  | [], _ => rfl
  | _ :: _, _ => rfl

theorem stepX_O {hb : Option AH} {i : Nat} {o : AOper} {st st' : St} {h h' : AH} {O O' : Prop} (e : stepX P hb orc base i o st h O = some (st', h', O')) (o' : O') : O := by
  unfold stepX at e
  split at e
  · split at e
    · split at e
      · cases e; exact o'.1
      · cases e
    · split at e
      · split at e
        · cases e; exact o'.1
        · cases e
      · cases e
  · simp only [Option.map_eq_some_iff, Prod.mk.injEq] at e
    obtain ⟨_, _, _, _, rfl⟩ := e
    exact o'
theorem runC_O {hb : Option AH} : ∀ {ops : List AOper} {i : Nat} {st st' : St} {h h' : AH} {O O' : Prop}, runC P hb orc base ops i (some (st, h, O)) = some (st', h', O') → O' → O
  | [], i, st, st', h, h', O, O', e, o => by simp only [runC, Option.some.injEq, Prod.mk.injEq] at e; obtain ⟨_, _, rfl⟩ := e; exact o
  | x :: os, i, st, st', h, h', O, O', e, o => by
    simp only [runC] at e
    cases hq : stepX P hb orc base i x st h O with
    | none => rw [hq, runC_none] at e; cases e
    | some p =>
      obtain ⟨s1, h1, O1⟩ := p
      rw [hq] at e
      exact stepX_O hq (runC_O e o)

theorem evG_stepX {i : Nat} {o : AOper} {st st' : St} {h h' : AH} {O O' : Prop} (e : stepX P none orc base i o st h O = some (st', h', O')) (o' : O') {K : St → AH → Prop} (k : K st' h') : evG P (base + i) o st h K := by
  unfold stepX at e
  split at e
  · rename_i f args hop
    split at e
    · rename_i hg
      split at e
      · rename_i fid fst caps hf
        cases e
        have o' := o'.2
        unfold evG
        simp only [hg, hop, evA, hf]
        rcases o' with ⟨hn, c⟩ | ⟨p, n, k', cs, hn, hr, c⟩
        · refine .inl (c.mono fun r h' hr => ?_)
          obtain ⟨rfl, rfl⟩ := hr
          rw [hn] at k
          exact k
        · refine .inr ⟨p, n, k', cs, c, ?_⟩
          rw [hn, hr] at k
          exact k
      · cases e
    · rename_i s want hg
      split at e
      · rename_i g hgd
        split at e
        · rename_i fid fst caps hf
          cases e
          have o' := o'.2
          unfold evG
          simp only [hg, hgd, hop, evC, hf]
          exact .inl ⟨_, o', k⟩
        · cases e
      · cases e
  · simp only [Option.map_eq_some_iff, Prod.mk.injEq] at e
    obtain ⟨⟨s1, h1⟩, hs, rfl, rfl, rfl⟩ := e
    exact evG_step hs k

theorem evHG_stepX {hb : AH} {i : Nat} {o : AOper} (hq : o.op.quiet = true) {st st' : St} {h h' : AH} {O O' : Prop} (e : stepX P (some hb) orc base i o st h O = some (st', h', O')) (o' : O') {K : St → AH → Prop} (k : K st' h') : evHG P (base + i) hb o st h K := by
  unfold stepX at e
  split at e
  · rename_i f args hop
    split at e
    · rename_i hg
      split at e
      · rename_i fid fst caps hf
        cases e
        have o' := o'.2
        unfold evHG
        simp only [hg, hop, evHA, hf]
        exact ⟨[], _, _, (fun _ h => nomatch h), o', k⟩
      · cases e
    · rename_i s want hg
      split at e
      · rename_i g hgd
        split at e
        · rename_i fid fst caps hf
          cases e
          have o' := o'.2
          unfold evHG
          simp only [hg, hgd, hop, evHC, hf]
          exact ⟨_, o', k⟩
        · cases e
      · cases e
  · simp only [Option.map_eq_some_iff, Prod.mk.injEq] at e
    obtain ⟨⟨s1, h1⟩, hs, rfl, rfl, rfl⟩ := e
    exact evHG_step hq hs k

theorem evOps_runC : ∀ {ops : List AOper} {i : Nat} {st st' : St} {h h' : AH} {O O' : Prop} (e : runC P none orc base ops i (some (st, h, O)) = some (st', h', O')) (o : O') {K : St → AH → Prop} (k : K st' h'), evOps P base ops i st h K
  | [], i, st, st', h, h', O, O', e, o, K, k => by simp only [runC, Option.some.injEq, Prod.mk.injEq] at e; obtain ⟨rfl, rfl, rfl⟩ := e; exact k
  | x :: os, i, st, st', h, h', O, O', e, o, K, k => by
    simp only [runC] at e
    simp only [evOps]
    cases hq : stepX P none orc base i x st h O with
    | none => rw [hq, runC_none] at e; cases e
    | some p =>
      obtain ⟨s1, h1, O1⟩ := p
      rw [hq] at e
      exact evG_stepX hq (runC_O e o) (evOps_runC e o k)

theorem evHead_runC {hb : AH} : ∀ {ops : List AOper} (hq : ops.all (fun o => o.op.quiet) = true) {i : Nat} {st st' : St} {h h' : AH} {O O' : Prop} (e : runC P (some hb) orc base ops i (some (st, h, O)) = some (st', h', O')) (o : O') {K : St → AH → Prop} (k : K st' h'), evHead P base hb ops i st h K
  | [], _, i, st, st', h, h', O, O', e, o, K, k => by simp only [runC, Option.some.injEq, Prod.mk.injEq] at e; obtain ⟨rfl, rfl, rfl⟩ := e; exact k
  | x :: os, hq, i, st, st', h, h', O, O', e, o, K, k => by
    simp only [runC] at e
    simp only [evHead]
    simp only [List.all_cons, Bool.and_eq_true] at hq
    cases hs : stepX P (some hb) orc base i x st h O with
    | none => rw [hs, runC_none] at e; cases e
    | some p =>
      obtain ⟨s1, h1, O1⟩ := p
      rw [hs] at e
      exact evHG_stepX hq.1 hs (runC_O e o) (evHead_runC hq.2 e o k)

theorem evOps_split {n : Nat} {ops : List AOper} (hn : n ≤ ops.length) {i : Nat} {st st' : St} {h h' : AH} {O' : Prop} {K : St → AH → Prop} (e : runC P none orc base (ops.take n) i (some (st, h, True)) = some (st', h', O')) (o : O')
    (k : evOps P base (ops.drop n) (i + n) st' h' K) : evOps P base ops i st h K := by
  rw [← List.take_append_drop n ops]
  refine evOps_append (evOps_runC e o ?_)
  rw [List.length_take, Nat.min_eq_left hn]
  exact k
/-- a call of whatever kind -/
theorem evOps_callA {d : Option Nat} {f : AX} {args : List AX} {post : List AOper} {i : Nat} {st : St} {h : AH} {K : St → AH → Prop} {fid : Nat} {fst caps : List AV} (hf : f.val st = .fn fid fst caps)
    (c : ACalls P fid (fst ++ args.map (AX.val st) ++ caps) h fun r h' => evOps P base post (i + 1) (put d r st) h' K) : evOps P base (⟨d, none, .call f args⟩ :: post) i st h K := by
  simp only [evOps, evG, evA, hf]
  exact .inl c

variable {N : Nat} {Q : Exit → St → AH → Prop} {K : St → AH → Prop} {st st' st1 : St} {h h' h1 : AH}
theorem k_regC {ops : List AOper} (orc : Orc) {O : Prop} (e : runC P none orc h.nx ops 0 (some (st, h.bump ops.length, True)) = some (st', h', O)) (o : O) (q : K st' h') : W P N (.reg ops) (athen K Q) st h := k_reg (evOps_runC e o q)
theorem k_headC {m : Nat} {ops : List AOper} (orc : Orc) (hn : (ops.take m).any (fun o => o.op.late) = false) (hq : (ops.take m).all (fun o => o.op.quiet) = true) {O1 O : Prop} (e1 : runC P (some (h.bump ops.length)) orc h.nx (ops.take m) 0 (some (st, h.bump ops.length, True)) = some (st1, h1, O1))
    (e : runC P none orc h.nx (ops.drop m) m (some (st1, h1, O1)) = some (st', h', O)) (o : O) (q : K st' h') : W P N (.head m ops) (athen K Q) st h :=
  k_head hn (evHead_runC hq e1 (runC_O e o) (evOps_runC e o q))
end

theorem okp {P : Program} {tok : Nat} {hb : AH} {f : Nat} {args : List AV} {r : AV} (c : ACalls P f args hb fun r' h' => r' = r ∧ h' = hb) : okCall P tok hb f args r none := .inl ⟨rfl, c⟩
theorem okf {P : Program} {tok : Nat} {hb : AH} {f : Nat} {args : List AV} {p : Option (List AV × List AV)} {n k : Nat} {cs : List AV} (c : FCalls P f args hb p n k cs) : okCall P tok hb f args (plug p (.sl tok 0 n k)) (some cs) := .inr ⟨p, n, k, cs, rfl, rfl, c⟩

/-! ### Reading -/
def AH.read (h : AH) (t o : Nat) (n : Option Nat) : Option AV := match h.row t with
  | some cs => rd cs o n
  | none => none
theorem ev_ld {ρ : AX → AV} {h : AH} {n : Option Nat} {x : AX} : AOp.ev ρ h (.ld n x) = match ρ x with
    | .p t o => h.read t o n
    | .pv cs o => rd cs o n
    | _ => none := by
  simp only [AOp.ev, AH.read]
  cases ρ x <;> rfl
theorem ev_mv (ρ : AX → AV) (H : AH) (x : AX) : AOp.ev ρ H (.mv x) = some (ρ x) := rfl
theorem ev_pick (ρ : AX → AV) (H : AH) (c a b : AX) : AOp.ev ρ H (.pick c a b) = match ρ c with
    | .b t => apick t (strip t (ρ a)) (strip (!t) (ρ b))
    | _ => none := rfl
theorem ev_bin (ρ : AX → AV) (H : AH) (bt : Bool) (op : BinOp) (x y : AX) : AOp.ev ρ H (.bin bt op x y) = abin bt op (ρ x) (ρ y) := rfl
theorem ev_neg (ρ : AX → AV) (H : AH) (x : AX) : AOp.ev ρ H (.neg x) = match ρ x with
    | .i k n => some (.i k (k.wrap (0 - n)))
    | _ => none := rfl
theorem ev_not (ρ : AX → AV) (H : AH) (x : AX) : AOp.ev ρ H (.not x) = match ρ x with
    | .b t => some (.b !t)
    | _ => none := rfl
theorem ev_conv (ρ : AX → AV) (H : AH) (k : IntKind) (x : AX) : AOp.ev ρ H (.conv k x) = match ρ x with
    | .i _ n => some (.i k (k.wrap n))
    | _ => none := rfl
theorem ev_ext (ρ : AX → AV) (H : AH) (x : AX) (i : Nat) : AOp.ev ρ H (.ext x i) = match ρ x with
    | .tu vs => vs[i]?
    | _ => none := rfl
theorem ev_fa (ρ : AX → AV) (H : AH) (x : AX) (off : Nat) : AOp.ev ρ H (.fa x off) = match ρ x with
    | .p t o => some (.p t (o + off))
    | .pv cs o => some (.pv cs (o + off))
    | _ => none := rfl
theorem ev_fld (ρ : AX → AV) (H : AH) (x : AX) (off : Nat) (n : Option Nat) : AOp.ev ρ H (.fld x off n) = match ρ x with
    | .ag cs => rd cs off n
    | _ => none := rfl
theorem ev_ia (ρ : AX → AV) (H : AH) (k : Nat) (x i : AX) : AOp.ev ρ H (.ia k x i) = match ρ x, ρ i with
    | .sl t o n _, .i _ j => if 0 ≤ j ∧ j < n then some (.p t (o + j.toNat * k)) else none
    | .vs n cs, .i _ j => if 0 ≤ j ∧ j < n then some (.pv cs (j.toNat * k)) else none
    | _, _ => none := rfl
theorem ev_iap (ρ : AX → AV) (H : AH) (n k : Nat) (x i : AX) : AOp.ev ρ H (.iap n k x i) = match ρ x, ρ i with
    | .p t o, .i _ j => if 0 ≤ j ∧ j < n then some (.p t (o + j.toNat * k)) else none
    | .pv cs o, .i _ j => if 0 ≤ j ∧ j < n then some (.pv cs (o + j.toNat * k)) else none
    | _, _ => none := rfl
theorem ev_iv (ρ : AX → AV) (H : AH) (n k : Nat) (g : Bool) (x i : AX) : AOp.ev ρ H (.iv n k g x i) = match ρ x, ρ i with
    | .ag cs, .i _ j => if 0 ≤ j ∧ j < n ∧ n * k ≤ cs.length then (if g then some (.ag ((cs.drop (j.toNat * k)).take k)) else cs[j.toNat * k]?) else none
    | _, _ => none := rfl
theorem ev_sli (ρ : AX → AV) (H : AH) (k : Nat) (x : AX) (lo hi : Option AX) : AOp.ev ρ H (.sli k x lo hi) = match ρ x with
    | .sl t o n a => match bound ρ 0 lo, bound ρ n hi with
      | some l, some h => if l ≤ h ∧ h ≤ n then some (.sl t (o + l * k) (h - l) (if a = k then k else 0)) else none
      | _, _ => none
    | .vs n cs => match bound ρ 0 lo, bound ρ n hi with
      | some l, some h => if l ≤ h ∧ h ≤ n then some (.vs (h - l) (vsub k lo hi l h cs)) else none
      | _, _ => none
    | _ => none := rfl
theorem ev_slp (ρ : AX → AV) (H : AH) (n k : Nat) (x : AX) (lo hi : Option AX) : AOp.ev ρ H (.slp n k x lo hi) = match ρ x with
    | .p t o => match bound ρ 0 lo, bound ρ n hi with
      | some l, some h => if l ≤ h ∧ h ≤ n then some (.sl t (o + l * k) (h - l) 0) else none
      | _, _ => none
    | .pv cs o => match bound ρ 0 lo, bound ρ n hi with
      | some l, some h => if l ≤ h ∧ h ≤ n then some (.vs (h - l) ((cs.drop (o + l * k)).take ((h - l) * k))) else none
      | _, _ => none
    | _ => none := rfl
theorem ev_nck (ρ : AX → AV) (H : AH) (x : AX) : AOp.ev ρ H (.nck x) = match ρ x with
    | .p t o => some (.p t o)
    | .pv cs o => some (.pv cs o)
    | .fn f a b => some (.fn f a b)
    | _ => none := rfl
theorem ev_bld (ρ : AX → AV) (H : AH) (zero : List AV) (parts : List (Nat × Nat × AX)) : AOp.ev ρ H (.bld zero parts) = (afill ρ zero parts).map .ag := rfl
theorem ev_len (ρ : AX → AV) (H : AH) (x : AX) : AOp.ev ρ H (.len x) = match ρ x with
    | .sl _ _ n _ => some (.i .i64 n)
    | .vs n _ => some (.i .i64 n)
    | _ => none := rfl
theorem ev_mm (ρ : AX → AV) (H : AH) (mx : Bool) (x : AX) (xs : List AX) : AOp.ev ρ H (.mm mx x xs) = amm mx (ρ x) (xs.map ρ) := rfl
theorem ev_mkf (ρ : AX → AV) (H : AH) (f : Nat) (a b : List AX) : AOp.ev ρ H (.mkf f a b) = some (.fn f (a.map ρ) (b.map ρ)) := rfl
theorem ev_eqn (ρ : AX → AV) (H : AH) (ng : Bool) (x y : AX) : AOp.ev ρ H (.eqn ng x y) = match isNil (ρ x), isNil (ρ y) with
    | some true, some t => some (.b (t != ng))
    | some false, some true => some (.b ng)
    | _, _ => none := rfl
theorem read_bump (h : AH) (k t o : Nat) (n : Option Nat) : (h.bump k).read t o n = h.read t o n := rfl
theorem read_set_same (h : AH) (t : Nat) (w : Bool) (cs : List AV) (o : Nat) (n : Option Nat) : (h.set t (.cells w cs)).read t o n = rd cs o n := by simp [AH.read, AH.set_row_same]
theorem read_set_ne {h : AH} {t s : Nat} (e : s ≠ t) (b : Blk) (o : Nat) (n : Option Nat) : (h.set t b).read s o n = h.read s o n := by simp [AH.read, AH.set_row_ne e]
theorem read_kill_ne {h : AH} {t s : Nat} (e : s ≠ t) (o : Nat) (n : Option Nat) : (h.kill t).read s o n = h.read s o n := by simp [AH.read, AH.kill_row_ne e]
theorem vsub_nn (k l h : Nat) (cs : List AV) : vsub k none none l h cs = cs := rfl
theorem vsub_sn (k l h : Nat) (x : AX) (cs : List AV) : vsub k (some x) none l h cs = cs.drop (l * k) := rfl
theorem vsub_ns (k l h : Nat) (x : AX) (cs : List AV) : vsub k none (some x) l h cs = cs.take (h * k) := rfl
theorem vsub_ss (k l h : Nat) (x y : AX) (cs : List AV) : vsub k (some x) (some y) l h cs = (cs.drop (l * k)).take ((h - l) * k) := rfl
theorem read_row {h : AH} {t : Nat} {cs : List AV} (e : h.row t = some cs) (o : Nat) (n : Option Nat) : h.read t o n = rd cs o n := by simp [AH.read, e]

/-! ### Values -/
theorem wrap64 {n : Int} (h1 : -9223372036854775808 ≤ n) (h2 : n ≤ 9223372036854775807) : IntKind.i64.wrap n = n := IntWalk.i64_in n ⟨h1, h2⟩
theorem initSt0 : initSt [] = [] := rfl
theorem initSt1 (a : AV) : initSt [a] = [(0, a)] := rfl
theorem initSt2 (a b : AV) : initSt [a, b] = [(0, a), (1, b)] := rfl
theorem initSt3 (a b c : AV) : initSt [a, b, c] = [(0, a), (1, b), (2, c)] := rfl
theorem initSt4 (a b c d : AV) : initSt [a, b, c, d] = [(0, a), (1, b), (2, c), (3, d)] := rfl
theorem initSt5 (a b c d e : AV) : initSt [a, b, c, d, e] = [(0, a), (1, b), (2, c), (3, d), (4, e)] := rfl
theorem initSt6 (a b c d e f : AV) : initSt [a, b, c, d, e, f] = [(0, a), (1, b), (2, c), (3, d), (4, e), (5, f)] := rfl

theorem pick_and (t p : Bool) : apick t (.b p) (.b false) = some (.b (t && p)) := by cases t <;> rfl
theorem pick_or (t q : Bool) : apick t (.b true) (.b q) = some (.b (t || q)) := by cases t <;> rfl
theorem strip_self (g : Bool) (v : AV) : strip g (.gd g v) = v := by cases g <;> rfl
theorem strip_b (g b : Bool) : strip g (.b b) = .b b := rfl
theorem strip_i (g : Bool) (k : IntKind) (n : Int) : strip g (.i k n) = .i k n := rfl
theorem strip_p (g : Bool) (t o : Nat) : strip g (.p t o) = .p t o := rfl
theorem strip_sl (g : Bool) (t o n a : Nat) : strip g (.sl t o n a) = .sl t o n a := rfl
theorem strip_vs (g : Bool) (n : Nat) (cs : List AV) : strip g (.vs n cs) = .vs n cs := rfl
theorem strip_pv (g : Bool) (cs : List AV) (o : Nat) : strip g (.pv cs o) = .pv cs o := rfl
theorem strip_ag (g : Bool) (cs : List AV) : strip g (.ag cs) = .ag cs := rfl
theorem strip_tu (g : Bool) (cs : List AV) : strip g (.tu cs) = .tu cs := rfl
theorem guard_t (b : Bool) : guardOf (.b b) true = some b := by cases b <;> rfl
theorem guard_f (b : Bool) : guardOf (.b b) false = some (!b) := by cases b <;> rfl

/-! ### A function -/
def Post (ars : List ARes) (R : AV → AH → Prop) (st : St) (h : AH) : Prop := ∃ vs, ars.mapM (ARes.val st h) = some vs ∧ R (aone vs) h
def Fin (K : St → AH → Prop) (e : Exit) (st : St) (h : AH) : Prop := e = .ret ∧ K st h
theorem a_fn {P : Program} {f : Nat} {ac : AC} {ars : List ARes} {N : Nat} (hf : fnOf P f = some (ac, ars, N)) {args : List AV} {h : AH} {R : AV → AH → Prop} (hN : args.length ≤ N)
    (hw : h.ok → 0 < h.nx → W P N ac (athen (Post ars R) (Fin (Post ars R))) (initSt args) h) : ACalls P f args h R := by
  refine acalls_fn hf hN (w_ok fun ok pos => (hw ok pos).mono fun e st h' q => ?_)
  cases e <;> simp only [athen, Fin, Post, reduceCtorEq, false_and, true_and] at q
  · exact ⟨.inl rfl, q.imp fun vs hv => ⟨hv.1, h', AH.le_refl _, hv.2⟩⟩
  · exact ⟨.inr rfl, q.imp fun vs hv => ⟨hv.1, h', AH.le_refl _, hv.2⟩⟩
theorem k_ret {P : Program} {N : Nat} {Q : Exit → St → AH → Prop} {K : St → AH → Prop} {st : St} {h : AH} (q : Q .ret st h) : W P N .ret (athen K Q) st h := w_ret q
theorem k_exit {P : Program} {N : Nat} {Q : Exit → St → AH → Prop} {K : St → AH → Prop} {st : St} {h : AH} {id : Nat} (q : Q (.exit id) st h) : W P N (.exit id) (athen K Q) st h := w_exit q
theorem fin {K : St → AH → Prop} {st : St} {h : AH} (q : K st h) : Fin K .ret st h := ⟨rfl, q⟩
theorem post1 {R : AV → AH → Prop} {st : St} {h : AH} {a : Nat} (q : R (st.get a) h) : Post [.t a] R st h := ⟨[st.get a], rfl, q⟩
theorem post2 {R : AV → AH → Prop} {st : St} {h : AH} {a b : Nat} (q : R (.tu [st.get a, st.get b]) h) : Post [.t a, .t b] R st h := ⟨[st.get a, st.get b], rfl, q⟩
theorem post3 {R : AV → AH → Prop} {st : St} {h : AH} {a b c : Nat} (q : R (.tu [st.get a, st.get b, st.get c]) h) : Post [.t a, .t b, .t c] R st h := ⟨[st.get a, st.get b, st.get c], rfl, q⟩
theorem postc {R : AV → AH → Prop} {st : St} {h : AH} {a : Nat} {k : Option Nat} {t o : Nat} {v : AV} (e : st.get a = .p t o) (e2 : h.read t o k = some v) (q : R v h) : Post [.c a k] R st h := by
  have e3 : ARes.val st h (.c a k) = some v := by
    unfold ARes.val
    simp only [e]
    exact e2
  exact ⟨[v], by simp [e3], q⟩
/-- a block, with what comes behind it -/
theorem k_blk {P : Program} {N : Nat} {Q : Exit → St → AH → Prop} {K : St → AH → Prop} {st : St} {h : AH} {id : Nat} {b : AC} (q : W P N b (athen K (ablk id (athen K Q))) st h) : W P N (.blk id b) (athen K Q) st h :=
  w_blk (q.mono fun e st h he => by cases e <;> exact he)
theorem out_blk {Q : Exit → St → AH → Prop} {K : St → AH → Prop} {st : St} {h : AH} {id : Nat} (q : K st h) : ablk id (athen K Q) (.exit id) st h := by simpa [ablk, athen] using q
theorem thru {K : St → AH → Prop} {Q : Exit → St → AH → Prop} {st : St} {h : AH} {id : Nat} (q : Q (.exit id) st h) : athen K Q (.exit id) st h := q
theorem pass {Q : Exit → St → AH → Prop} {st : St} {h : AH} {id id' : Nat} (hne : id' ≠ id) (q : Q (.exit id') st h) : ablk id Q (.exit id') st h := by simpa [ablk, hne] using q
theorem ret_blk {Q : Exit → St → AH → Prop} {K : St → AH → Prop} {st : St} {h : AH} {id : Nat} (q : Q .ret st h) : ablk id (athen K Q) .ret st h := q
/-- a loop within its block: 'I n st h' at each round's start, n falling -/
theorem k_loop {P : Program} {N : Nat} {Q : Exit → St → AH → Prop} {K : St → AH → Prop} {st : St} {h : AH} {b : AC} (I : Nat → St → AH → Prop) (n : Nat) (h0 : I n st h)
    (round : ∀ n st h, I n st h → W P N b (athen (fun st' h' => ∃ m, m < n ∧ I m st' h') Q) st h) : W P N (.loop b) (athen K Q) st h :=
  w_loop I n h0 fun n st h hI => (round n st h hI).mono fun e st' h' q => by
    cases e
    case normal => obtain ⟨m, hm, q⟩ := q; exact ⟨m, h', hm, AH.le_refl _, q⟩
    all_goals exact q
end Go.Am
