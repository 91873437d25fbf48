/- The abstract machine: reckoning by steps; calls met in turn by their contracts. -/
import Derived.Test.YtbhkbaapfioijaaAmU
set_option linter.unusedVariables false
set_option linter.unusedSimpArgs false
namespace Go.Am

def AOp.isCall : AOp → Bool
  | .call .. | .eqz .. => true
  | _ => false
def AOp.isApp : AOp → Bool
  | .app .. => true
  | _ => false

/-- One operation, reckoned; under a guard that is not met nothing is asked of it. -/
def stepU (tok : Nat) (o : AOper) (st : St) (h : AH) : Option (St × AH) :=
  match o.g with
  | none => stepA tok o.d o.op st h
  | some (s, want) => match guardOf (st.get s) want with
    | none => none
    | some g =>
      if o.op.isVal = true then
        (if g = true then (o.op.ev (AX.val (stS g st)) h).map fun v => (put o.d (.gd g v) st, h)
         else some (put o.d (.gd g ((o.op.ev (AX.val (stS g st)) h).getD .un)) st, h))
      else if o.op.isAl = true then
        (if g = true then (o.op.al (AX.val (stS g st)) tok).map fun p => (put o.d (.gd g p.1) st, h.set tok (.cells true p.2))
         else some (put o.d (.gd g .un) st, h))
      else if o.op.isCall = true then none
      else if g = true then stepA tok o.d o.op (stS true st) h else some (put o.d (.gd g .un) st, h)

inductive Res where
  | done (st : St) (h : AH)
  | call (o : AOper) (os : List AOper) (i : Nat) (st : St) (h : AH)
  | bad

/-- up to the next call (in a head: or append) -/
def runS (hd : Bool) (base : Nat) : List AOper → Nat → Option (St × AH) → Res
  | _, _, none => .bad
  | [], _, some (st, h) => .done st h
  | o :: os, i, some (st, h) => if (o.op.isCall || (o.op.isApp && hd)) = true then .call o os i st h else runS hd base os (i + 1) (stepU (base + i) o st h)

def evR (P : Program) (base : Nat) : Res → (St → AH → Prop) → Prop
  | .done st h, K => K st h
  | .call o os i st h, K => evG P (base + i) o st h fun st h => evOps P base os (i + 1) st h K
  | .bad, _ => False
def evHR (P : Program) (base : Nat) (hb : AH) : Res → (St → AH → Prop) → Prop
  | .done st h, K => K st h
  | .call o os i st h, K => evHG P (base + i) hb o st h fun st h => evHead P base hb os (i + 1) st h K
  | .bad, _ => False

theorem evG_stepU {P : Program} {tok : Nat} {o : AOper} {st st' : St} {h h' : AH} (e : stepU tok o st h = some (st', h')) {K : St → AH → Prop} (k : K st' h') : evG P tok o st h K := by
  obtain ⟨d, og, op⟩ := o
  cases og with
  | none => exact evA_step (by simpa only [stepU] using e) k
  | some sw =>
    obtain ⟨s, want⟩ := sw
    simp only [stepU] at e
    simp only [evG]
    cases hq : guardOf (st.get s) want with
    | none => simp only [hq, reduceCtorEq] at e
    | some g =>
      simp only [hq] at e ⊢
      by_cases h3 : g = true ∧ op.isVal = false ∧ op.isAl = false ∧ op.isCall = false
      · obtain ⟨rfl, h4, h5, h6⟩ := h3
        simp only [h4, h5, h6, Bool.false_eq_true, if_false, if_true] at e
        exact .inr ⟨rfl, evA_step e k⟩
      refine .inl ?_
      cases op <;> simp only [AOp.isVal, AOp.isAl, AOp.isCall, if_true, if_false, Bool.false_eq_true, reduceCtorEq, and_self, and_true, not_true_eq_false, Bool.not_eq_true] at e h3 <;> simp only [evC, AOp.isVal, AOp.isAl, if_true, if_false, Bool.false_eq_true] <;> first | (subst h3; simp only [if_false, Bool.false_eq_true, Option.some.injEq, Prod.mk.injEq] at e; obtain ⟨e1, e2⟩ := e; subst e1; subst e2; exact ⟨fun hg => absurd hg Bool.false_ne_true, fun _ => k⟩) | skip <;> cases g <;>
        simp only [if_true, if_false, Bool.false_eq_true, Option.map_eq_some_iff, Option.some.injEq, Prod.mk.injEq, reduceCtorEq] at e <;>
        first
          | (obtain ⟨e1, e2⟩ := e; subst e1; subst e2; exact ⟨_, fun hg => absurd hg Bool.false_ne_true, k⟩)
          | (obtain ⟨a, ha, e1, e2⟩ := e; subst e1; subst e2; exact ⟨a, fun _ => ha, k⟩)
          | (obtain ⟨e1, e2⟩ := e; subst e1; subst e2; exact ⟨fun hg => absurd hg Bool.false_ne_true, fun _ => k⟩)
          | (obtain ⟨a, ha, e1, e2⟩ := e; subst e1; subst e2; exact ⟨fun _ => by rw [ha]; exact k, fun hg => absurd hg (by simp)⟩)

theorem evHG_stepU {P : Program} {tok : Nat} {hb : AH} {o : AOper} (hq' : o.op.quiet = true) (hl : (!o.op.late || o.g.isNone) = true) {st st' : St} {h h' : AH} (e : stepU tok o st h = some (st', h')) {K : St → AH → Prop} (k : K st' h') : evHG P tok hb o st h K := by
  obtain ⟨d, og, op⟩ := o
  cases og with
  | none => exact evHA_step hq' (by simpa only [stepU] using e) k
  | some sw =>
    obtain ⟨s, want⟩ := sw
    simp only [stepU] at e
    simp only [evHG]
    cases hq : guardOf (st.get s) want with
    | none => simp only [hq, reduceCtorEq] at e
    | some g =>
      simp only [hq] at e ⊢
      cases op <;> simp only [AOp.quiet, AOp.late, Bool.not_true, Bool.not_false, Bool.false_or, Option.isNone, Bool.false_eq_true] at hq' hl <;> simp only [AOp.isVal, AOp.isAl, AOp.isCall, if_true, if_false, Bool.false_eq_true, reduceCtorEq] at e <;> simp only [evHC, AOp.isVal, AOp.isAl, if_true, if_false, Bool.false_eq_true] <;> cases g <;>
        simp only [if_true, if_false, Bool.false_eq_true, Option.map_eq_some_iff, Option.some.injEq, Prod.mk.injEq, reduceCtorEq] at e <;>
        first
          | (obtain ⟨e1, e2⟩ := e; subst e1; subst e2; exact ⟨_, fun hg => absurd hg Bool.false_ne_true, k⟩)
          | (obtain ⟨a, ha, e1, e2⟩ := e; subst e1; subst e2; exact ⟨a, fun _ => ha, k⟩)
          | (obtain ⟨e1, e2⟩ := e; subst e1; subst e2; exact ⟨fun hg => absurd hg Bool.false_ne_true, fun _ => k⟩)
          | (obtain ⟨a, ha, e1, e2⟩ := e; subst e1; subst e2; exact ⟨fun _ => by rw [ha]; exact k, fun hg => absurd hg (by simp)⟩)

theorem runS_none (hd : Bool) (base : Nat) : ∀ (os : List AOper) (i : Nat), runS hd base os i none = .bad
  | [], _ => rfl
  | _ :: _, _ => rfl

section
variable {P : Program} {base i : Nat} {hb : AH} {K : St → AH → Prop} {st st' : St} {h h' : AH} {R : Res}
theorem s_go : ∀ {ops : List AOper} {i : Nat} {st : St} {h : AH} (e : runS false base ops i (some (st, h)) = R) (k : evR P base R K), evOps P base ops i st h K
  | [], i, st, h, e, k => by simp only [runS] at e; subst e; exact k
  | o :: os, i, st, h, e, k => by
    simp only [runS] at e
    split at e
    · subst e; exact k
    · simp only [evOps]
      cases hs : stepU (base + i) o st h with
      | none => rw [hs, runS_none] at e; subst e; exact k.elim
      | some p =>
        obtain ⟨st1, h1⟩ := p
        rw [hs] at e
        exact evG_stepU hs (s_go e k)
theorem h_go : ∀ {ops : List AOper} (hq : ops.all (fun o => (o.op.quiet && (!o.op.late || o.g.isNone)) || o.op.isApp) = true) {i : Nat} {st : St} {h : AH} (e : runS true base ops i (some (st, h)) = R) (k : evHR P base hb R K), evHead P base hb ops i st h K
  | [], _, i, st, h, e, k => by simp only [runS] at e; subst e; exact k
  | o :: os, hq, i, st, h, e, k => by
    simp only [runS] at e
    simp only [List.all_cons, Bool.and_eq_true] at hq
    split at e
    · subst e; exact k
    · simp only [evHead]
      cases hs : stepU (base + i) o st h with
      | none => rw [hs, runS_none] at e; subst e; exact k.elim
      | some p =>
        obtain ⟨st1, h1⟩ := p
        rw [hs] at e
        rename_i hst
        have hq1 : o.op.quiet = true ∧ (!o.op.late || o.g.isNone) = true := by
          have := hq.1
          cases ho : o.op <;> simp_all [AOp.quiet, AOp.isApp, AOp.isCall, AOp.late]
        exact evHG_stepU hq1.1 hq1.2 hs (h_go hq.2 e k)

theorem r_done (k : K st h) : evR P base (.done st h) K := k
theorem hr_done (k : K st h) : evHR P base hb (.done st h) K := k

variable {d : Option Nat} {f : AX} {args : List AX} {os : List AOper} {fid j : Nat} {fst caps as : List AV} {v : AV} {s : Nat} {want g : Bool}
theorem chk_r {o : AOper} (e : evR P base (.call o os i st h) K) : evR P base (.call o os i st h) K := e
theorem chk_h {o : AOper} (e : evHR P base hb (.call o os i st h) K) : evHR P base hb (.call o os i st h) K := e
/-- a call that leaves everything as it was -/
theorem r_callP (hf : f.val st = .fn fid fst caps) (ha : fst ++ args.map (AX.val st) ++ caps = as) (c : ACalls P fid as h fun r h' => r = v ∧ h' = h) (hj : i + 1 = j) (k : evOps P base os j (put d v st) h K) :
    evR P base (.call ⟨d, none, .call f args⟩ os i st h) K := by
  subst ha; subst hj
  simp only [evR, evG, evA, hf]
  exact .inl (c.mono fun r h' ⟨hr, hh⟩ => by subst hr; subst hh; exact k)
/-- a call that yields a new slice -/
theorem r_callN {p : Option (List AV × List AV)} {n k' : Nat} {cs : List AV} (hf : f.val st = .fn fid fst caps) (ha : fst ++ args.map (AX.val st) ++ caps = as) (c : FCalls P fid as h p n k' cs) (hj : i + 1 = j)
    (k : evOps P base os j (put d (plug p (.sl (base + i) 0 n k')) st) (h.set (base + i) (.cells true cs)) K) :
    evR P base (.call ⟨d, none, .call f args⟩ os i st h) K := by
  subst ha; subst hj
  simp only [evR, evG, evA, hf]
  exact .inr ⟨p, n, k', cs, c, k⟩
/-- a call of any kind -/
theorem r_callX {R : AV → AH → Prop} (hf : f.val st = .fn fid fst caps) (ha : fst ++ args.map (AX.val st) ++ caps = as) (c : ACalls P fid as h R) (hj : i + 1 = j) (k : ∀ r h', R r h' → evOps P base os j (put d r st) h' K) :
    evR P base (.call ⟨d, none, .call f args⟩ os i st h) K := by
  subst ha; subst hj
  simp only [evR, evG, evA, hf]
  exact .inl (c.mono k)
/-- a call under a guard -/
theorem r_callG (hg : guardOf (st.get s) want = some g) (hf : f.val (stS g st) = .fn fid fst caps) (ha : fst ++ args.map (AX.val (stS g st)) ++ caps = as) (c : g = true → ACalls P fid as h fun r h' => r = v ∧ h' = h) (hj : i + 1 = j)
    (k : evOps P base os j (put d (.gd g v) st) h K) : evR P base (.call ⟨d, some (s, want), .call f args⟩ os i st h) K := by
  subst ha; subst hj
  simp only [evR, evG, hg, evC, hf]
  exact .inl ⟨v, c, k⟩
theorem r_callF (hg : guardOf (st.get s) want = some g) (hg2 : g = false) (hf : f.val (stS false st) = .fn fid fst caps) (hj : i + 1 = j)
    (k : evOps P base os j (put d (.gd false .un) st) h K) : evR P base (.call ⟨d, some (s, want), .call f args⟩ os i st h) K := by
  subst hj; subst hg2
  simp only [evR, evG, hg, evC, hf]
  exact .inl ⟨.un, fun q => (nomatch q), k⟩

theorem r_callTP (hg : guardOf (st.get s) want = some true) (hf : f.val (stS true st) = .fn fid fst caps) (ha : fst ++ args.map (AX.val (stS true st)) ++ caps = as) (c : ACalls P fid as h fun r h' => r = v ∧ h' = h) (hj : i + 1 = j) (k : evOps P base os j (put d v (stS true st)) h K) :
    evR P base (.call ⟨d, some (s, want), .call f args⟩ os i st h) K := by
  subst ha; subst hj
  simp only [evR, evG, hg, evA, hf]
  exact .inr ⟨trivial, .inl (c.mono fun r h' ⟨hr, hh⟩ => by subst hr; subst hh; exact k)⟩
theorem r_callTN {p : Option (List AV × List AV)} {n k' : Nat} {cs : List AV} (hg : guardOf (st.get s) want = some true) (hf : f.val (stS true st) = .fn fid fst caps) (ha : fst ++ args.map (AX.val (stS true st)) ++ caps = as) (c : FCalls P fid as h p n k' cs) (hj : i + 1 = j)
    (k : evOps P base os j (put d (plug p (.sl (base + i) 0 n k')) (stS true st)) (h.set (base + i) (.cells true cs)) K) : evR P base (.call ⟨d, some (s, want), .call f args⟩ os i st h) K := by
  subst ha; subst hj
  simp only [evR, evG, hg, evA, hf]
  exact .inr ⟨trivial, .inr ⟨p, n, k', cs, c, k⟩⟩
theorem r_callTX {R : AV → AH → Prop} (hg : guardOf (st.get s) want = some true) (hf : f.val (stS true st) = .fn fid fst caps) (ha : fst ++ args.map (AX.val (stS true st)) ++ caps = as) (c : ACalls P fid as h R) (hj : i + 1 = j) (k : ∀ r h', R r h' → evOps P base os j (put d r (stS true st)) h' K) :
    evR P base (.call ⟨d, some (s, want), .call f args⟩ os i st h) K := by
  subst ha; subst hj
  simp only [evR, evG, hg, evA, hf]
  exact .inr ⟨trivial, .inl (c.mono k)⟩
theorem hr_app {kk b : Nat} {x y : AX} {cs : List AV} (e : h.qpp kk b (base + i) (x.val st) (y.val st) = some (v, cs)) (hj : i + 1 = j) (k : evHead P base hb os j (put d v st) (h.set (base + i) (.cells true cs)) K) :
    evHR P base hb (.call ⟨d, none, .app kk b x y⟩ os i st h) K := by
  subst hj
  simp only [evHR, evHG, evHA, e]
  exact k

theorem hr_callP (hf : f.val st = .fn fid fst caps) (ha : fst ++ args.map (AX.val st) ++ caps = as) (c : ACalls P fid as hb fun r h' => r = v ∧ h' = hb) (hj : i + 1 = j) (k : evHead P base hb os j (put d v st) h K) :
    evHR P base hb (.call ⟨d, none, .call f args⟩ os i st h) K := by
  subst ha; subst hj
  simp only [evHR, evHG, evHA, hf]
  exact ⟨[], v, none, (fun _ h => nomatch h), .inl ⟨rfl, c⟩, k⟩
theorem hr_callN {p : Option (List AV × List AV)} {n k' : Nat} {cs : List AV} (hf : f.val st = .fn fid fst caps) (ha : fst ++ args.map (AX.val st) ++ caps = as) (c : FCalls P fid as hb p n k' cs) (hj : i + 1 = j)
    (k : evHead P base hb os j (put d (plug p (.sl (base + i) 0 n k')) st) (h.set (base + i) (.cells true cs)) K) :
    evHR P base hb (.call ⟨d, none, .call f args⟩ os i st h) K := by
  subst ha; subst hj
  simp only [evHR, evHG, evHA, hf]
  exact ⟨[], _, _, (fun _ h => nomatch h), .inr ⟨p, n, k', cs, rfl, rfl, c⟩, k⟩
/-- a call whose argument lies in a block of this head -/
def firstTok : List AV → Option Nat
  | [] => none
  | .sl t _ n _ :: r => if n = 0 then firstTok r else some t
  | _ :: r => firstTok r
theorem firstTok_mem : ∀ {l : List AV} {t : Nat}, firstTok l = some t → ∃ v ∈ l, v.tok = some t
  | v :: r, t, e => by
    have up : firstTok r = some t → ∃ v' ∈ v :: r, v'.tok = some t := fun h => by
      obtain ⟨x, h1, h2⟩ := firstTok_mem h
      exact ⟨x, List.mem_cons_of_mem _ h1, h2⟩
    cases v
    case sl t' o n a =>
      simp only [firstTok] at e
      split at e
      · exact up e
      · rename_i h0
        cases e
        exact ⟨_, List.mem_cons_self, by simp only [AV.tok, if_neg h0]⟩
    all_goals exact up e
theorem hr_callP1 {t : Nat} (hf : f.val st = .fn fid fst caps) (ha : fst ++ args.map (AX.val st) ++ caps = as) (ht : firstTok (args.map (AX.val st)) = some t) (c : ACalls P fid as (hb.plus h [t]) fun r h' => r = v ∧ h' = hb.plus h [t]) (hj : i + 1 = j) (k : evHead P base hb os j (put d v st) h K) :
    evHR P base hb (.call ⟨d, none, .call f args⟩ os i st h) K := by
  subst ha; subst hj
  simp only [evHR, evHG, evHA, hf]
  refine ⟨[t], v, none, fun s hs => ?_, .inl ⟨rfl, c⟩, k⟩
  obtain ⟨x, h1, h2⟩ := firstTok_mem ht
  obtain ⟨y, h3, rfl⟩ := List.mem_map.1 h1
  rw [List.mem_singleton] at hs
  subst hs
  exact ⟨y, h3, h2⟩
theorem hr_callN1 {t : Nat} {p : Option (List AV × List AV)} {n k' : Nat} {cs : List AV} (hf : f.val st = .fn fid fst caps) (ha : fst ++ args.map (AX.val st) ++ caps = as) (ht : firstTok (args.map (AX.val st)) = some t) (c : FCalls P fid as (hb.plus h [t]) p n k' cs) (hj : i + 1 = j)
    (k : evHead P base hb os j (put d (plug p (.sl (base + i) 0 n k')) st) (h.set (base + i) (.cells true cs)) K) :
    evHR P base hb (.call ⟨d, none, .call f args⟩ os i st h) K := by
  subst ha; subst hj
  simp only [evHR, evHG, evHA, hf]
  refine ⟨[t], _, _, fun s hs => ?_, .inr ⟨p, n, k', cs, rfl, rfl, c⟩, k⟩
  obtain ⟨x, h1, h2⟩ := firstTok_mem ht
  obtain ⟨y, h3, rfl⟩ := List.mem_map.1 h1
  rw [List.mem_singleton] at hs
  subst hs
  exact ⟨y, h3, h2⟩
/-- is an empty slice nil? both answers -/
theorem r_eqz {ng : Bool} {x : AX} {t o n a : Nat} (hx : x.val st = .sl t o n a) (hj : i + 1 = j) (h0 : n = 0 → ∀ b, evOps P base os j (put d (.b b) st) h K) (h1 : n ≠ 0 → evOps P base os j (put d (.b ng) st) h K) :
    evR P base (.call ⟨d, none, .eqz ng x⟩ os i st h) K := by
  subst hj
  simp only [evR, evG, evA, hx]
  split
  · rename_i q; exact h0 q
  · rename_i q; exact h1 q
theorem r_eqzv {ng : Bool} {x : AX} {n : Nat} {cs : List AV} (hx : x.val st = .vs n cs) (hj : i + 1 = j) (h0 : n = 0 → ∀ b, evOps P base os j (put d (.b b) st) h K) (h1 : n ≠ 0 → evOps P base os j (put d (.b ng) st) h K) :
    evR P base (.call ⟨d, none, .eqz ng x⟩ os i st h) K := by
  subst hj
  simp only [evR, evG, evA, hx]
  split
  · rename_i q; exact h0 q
  · rename_i q; exact h1 q
theorem hr_callG (hg : guardOf (st.get s) want = some g) (hf : f.val (stS g st) = .fn fid fst caps) (ha : fst ++ args.map (AX.val (stS g st)) ++ caps = as) (c : g = true → ACalls P fid as hb fun r h' => r = v ∧ h' = hb) (hj : i + 1 = j)
    (k : evHead P base hb os j (put d (.gd g v) st) h K) : evHR P base hb (.call ⟨d, some (s, want), .call f args⟩ os i st h) K := by
  subst ha; subst hj
  simp only [evHR, evHG, hg, evHC, hf]
  exact ⟨v, c, k⟩
theorem hr_callF (hg : guardOf (st.get s) want = some g) (hg2 : g = false) (hf : f.val (stS false st) = .fn fid fst caps) (hj : i + 1 = j)
    (k : evHead P base hb os j (put d (.gd false .un) st) h K) : evHR P base hb (.call ⟨d, some (s, want), .call f args⟩ os i st h) K := by
  subst hj; subst hg2
  simp only [evHR, evHG, hg, evHC, hf]
  exact ⟨.un, fun q => (nomatch q), k⟩
end

section
variable {P : Program} {N : Nat} {Q : Exit → St → AH → Prop} {K : St → AH → Prop} {st : St} {h : AH}
theorem k_condT {c : AX} {a b : AC} (ht : c.val st = .b true) (h1 : W P N a (athen K Q) st h) : W P N (.cond c a b) (athen K Q) st h := k_cond ht (fun _ => h1) (fun q => nomatch q)
theorem k_condF {c : AX} {a b : AC} (ht : c.val st = .b false) (h2 : W P N b (athen K Q) st h) : W P N (.cond c a b) (athen K Q) st h := k_cond ht (fun q => nomatch q) (fun _ => h2)
theorem ret_thru (q : Q .ret st h) : athen K Q .ret st h := q
theorem k_blkS {id : Nat} {a b : AC} (q : W P N (.seq a b) (athen K (ablk id (athen K Q))) st h) : W P N (.blk id (.seq a b)) (athen K Q) st h := k_blk q
theorem k_condP {c : AX} {a b : AC} {t : Bool} {p : Prop} (ht : c.val st = .b t) (hp : (t = true) = p) (h1 : p → W P N a (athen K Q) st h) (h2 : ¬ p → W P N b (athen K Q) st h) : W P N (.cond c a b) (athen K Q) st h :=
  k_cond ht (fun q => h1 (hp ▸ q)) (fun q => h2 (hp ▸ by simp [q]))
end

theorem post0 {R : AV → AH → Prop} {st : St} {h : AH} (q : R (.tu []) h) : Post [] R st h := ⟨[], rfl, q⟩
/-- forget how a heap came to be -/
theorem w_gen {P : Program} {N : Nat} {c : AC} {Q : Exit → St → AH → Prop} {st : St} {h : AH} (F : AH → Prop) (hF : F h) (k : ∀ H, F H → W P N c Q st H) : W P N c Q st h := k h hF
theorem apick_t (x y : AV) : apick true x y = some x := by cases x <;> cases y <;> rfl
theorem apick_f (x y : AV) : apick false x y = some y := by cases x <;> cases y <;> rfl
theorem strip_ff (v : AV) : strip true (.gd false v) = .gd false v := rfl
theorem strip_n (g : Bool) : strip g .nilp = .nilp := rfl
theorem strip_un (g : Bool) : strip g .un = .un := rfl
theorem strip_s (g : Bool) (x : ByteArray) : strip g (.s x) = .s x := rfl
theorem strip_fn (g : Bool) (f : Nat) (a b : List AV) : strip g (.fn f a b) = .fn f a b := rfl
theorem strip_mp (g : Bool) (t : Nat) : strip g (.mp t) = .mp t := rfl
theorem strip_nm (g : Bool) : strip g .nilm = .nilm := rfl
theorem strip_nf (g : Bool) : strip g .nilf = .nilf := rfl
theorem strip_tr (v : AV) (g : Bool) : strip false (.gd g v) = v := rfl
theorem stS_cons (g : Bool) (k : Nat) (v : AV) (r : St) : stS g ((k, v) :: r) = (k, strip g v) :: stS g r := rfl
theorem stS_nil (g : Bool) : stS g [] = [] := rfl
end Go.Am
