/- The abstract machine: rules in the form in which they are used; laws of heaps. -/
import Derived.Test.YtappehafkjcabaaAmO
set_option linter.unusedVariables false
set_option linter.unusedSimpArgs false
namespace Go.Am

def AH.bump (h : AH) (n : Nat) : AH := { h with nx := h.nx + n }
def AH.ok (h : AH) : Prop := ∀ t c, h.m t = some c → t < h.nx

theorem AH.bump_nx (h : AH) (n : Nat) : (h.bump n).nx = h.nx + n := rfl
theorem AH.set_nx (h : AH) (t : Nat) (b : Blk) : (h.set t b).nx = h.nx := rfl
theorem AH.kill_nx (h : AH) (t : Nat) : (h.kill t).nx = h.nx := rfl
theorem AH.bump_m (h : AH) (n : Nat) (t : Nat) : (h.bump n).m t = h.m t := rfl
theorem AH.set_m_same (h : AH) (t : Nat) (b : Blk) : (h.set t b).m t = some b := by simp [AH.set]
theorem AH.set_m_ne {h : AH} {t s : Nat} (e : s ≠ t) (b : Blk) : (h.set t b).m s = h.m s := by simp [AH.set, e]
theorem AH.kill_m_ne {h : AH} {t s : Nat} (e : s ≠ t) : (h.kill t).m s = h.m s := by simp [AH.kill, e]
theorem AH.bump_row (h : AH) (n : Nat) (t : Nat) : (h.bump n).row t = h.row t := rfl
theorem AH.set_row_same (h : AH) (t : Nat) (w : Bool) (cs : List AV) : (h.set t (.cells w cs)).row t = some cs := by simp [AH.row, AH.set_m_same]
theorem AH.set_row_ne {h : AH} {t s : Nat} (e : s ≠ t) (b : Blk) : (h.set t b).row s = h.row s := by simp [AH.row, AH.set_m_ne e]
theorem AH.kill_row_ne {h : AH} {t s : Nat} (e : s ≠ t) : (h.kill t).row s = h.row s := by simp [AH.row, AH.kill_m_ne e]
theorem AH.set_set (h : AH) (t : Nat) (b c : Blk) : (h.set t b).set t c = h.set t c := by
  unfold AH.set; congr 1; funext s; by_cases e : s = t <;> simp [e]

theorem AH.row_le {h0 h : AH} (e : h0.le h) {t : Nat} {cs : List AV} (r : h0.row t = some cs) : h.row t = some cs := by
  unfold AH.row at r ⊢
  split at r
  · rename_i w cs' hm; rw [e.1 _ _ hm]; exact r
  · cases r
theorem AH.ok.row {h : AH} (ok : h.ok) {t : Nat} {cs : List AV} (r : h.row t = some cs) : t < h.nx := by
  unfold AH.row at r
  split at r
  · rename_i w cs' hm; exact ok _ _ hm
  · cases r
theorem AH.ok.bump {h : AH} (ok : h.ok) (n : Nat) : (h.bump n).ok := fun t c hc => by have := ok t c hc; simp [AH.bump]; omega
theorem AH.ok.set {h : AH} (ok : h.ok) {t : Nat} (ht : t < h.nx) (b : Blk) : (h.set t b).ok := fun s c hc => by
  unfold AH.set at hc
  by_cases e : s = t
  · subst e; exact ht
  · simp only [if_neg e] at hc; exact ok s c hc

section
variable {P : Program} {N : Nat} {Q : Exit → St → AH → Prop} {K : St → AH → Prop} {st st' : St} {h h' : AH}

/-- Every token of a heap lies below the next one: this comes for nothing. -/
theorem w_ok {c : AC} (w : h.ok → 0 < h.nx → W P N c Q st h) : W P N c Q st h := fun c' hc ι a wd ar wr => w (fun t b hb => (wr.blk t b hb).1) wr.pos c' hc ι a wd ar wr

/-! ### One piece of code, with what comes behind it -/
theorem k_skip (q : K st h) : W P N .skip (athen K Q) st h := w_skip q
theorem k_seq {a b : AC} (q : W P N a (athen (fun st h => W P N b (athen K Q) st h) (athen K Q)) st h) : W P N (.seq a b) (athen K Q) st h := w_seq q
theorem k_run {ops : List AOper} (e : run h.nx ops 0 (some (st, h.bump ops.length)) = some (st', h')) (q : K st' h') : W P N (.reg ops) (athen K Q) st h := w_run e q
theorem k_runH {m : Nat} {ops : List AOper} (hq : (ops.take m).all (fun o => o.op.quiet) = true) (e : run h.nx ops 0 (some (st, h.bump ops.length)) = some (st', h')) (q : K st' h') : W P N (.head m ops) (athen K Q) st h := w_runH hq e q
theorem k_reg {ops : List AOper} (e : evOps P h.nx ops 0 st (h.bump ops.length) K) : W P N (.reg ops) (athen K Q) st h := w_reg e
theorem k_head {m : Nat} {ops : List AOper} (e : evHead P h.nx (h.bump ops.length) (ops.take m) 0 st (h.bump ops.length) fun st' h' => evOps P h.nx (ops.drop m) m st' h' K) : W P N (.head m ops) (athen K Q) st h := w_head e
theorem k_cond {c : AX} {a b : AC} {t : Bool} (ht : c.val st = .b t) (h1 : t = true → W P N a (athen K Q) st h) (h2 : t = false → W P N b (athen K Q) st h) : W P N (.cond c a b) (athen K Q) st h := w_cond ht h1 h2
theorem w_keep {c : AC} (ks : List Nat) (w : W P N c Q (keep ks st) h) : W P N c Q st h := W.keep ks w

/-! ### Contracts that leave the heap as it was -/
def Blk.ro : Blk → Blk
  | .cells _ cs => .cells false cs
  | .map es => .map es
/-- the same rows, to be read alone (a map stays what it is) -/
def AH.ro (h : AH) : AH := { h with m := fun t => match h.m t with
  | some (.cells _ cs) => some (.cells false cs)
  | _ => none }
theorem AH.ro_row (h : AH) (t : Nat) : h.ro.row t = h.row t := by
  have q : h.ro.m t = match h.m t with
    | some (.cells _ cs) => some (.cells false cs)
    | _ => none := rfl
  unfold AH.row
  rw [q]
  rcases h.m t with _ | ⟨w, cs⟩ | es <;> rfl
theorem AH.ro_nx (h : AH) : h.ro.nx = h.nx := rfl
theorem AH.ro_m {h : AH} {t : Nat} {c : Blk} (e : h.ro.m t = some c) : c.wr = false ∧ ∃ w cs, h.m t = some (.cells w cs) ∧ c = .cells false cs := by
  unfold AH.ro at e
  simp only at e
  split at e
  · rename_i w cs hm; cases e; exact ⟨rfl, w, cs, hm, rfl⟩
  · cases e

theorem WRel.ro {ι : Inj} {w : World} (r : WRel ι h w) : WRel ι h.ro w where
  lt := r.lt
  blk t c hc := by
    obtain ⟨_, wr, cs, hm, rfl⟩ := AH.ro_m hc
    refine ⟨(r.blk t _ hm).1, ?_⟩
    have hb := (r.blk t _ hm).2
    simp only [BRel] at hb ⊢
    rcases hb with hb | ⟨l, vs, e, fz, h1, h2, h3, h4, h5, h6⟩
    · exact .inl hb
    · exact .inr ⟨l, vs, e, fz, h1, h2, h3, h4, (fun q => nomatch q), h6⟩
  inj t t' l l' c c' h1 h2 h3 h4 h5 h6 := by
    obtain ⟨q1, _⟩ := AH.ro_m h1
    obtain ⟨q2, _⟩ := AH.ro_m h2
    rw [q1, q2] at h6
    simp at h6
  pos := r.pos
  nil := r.nil

/-- A call whose result bears no token, proved over rows that are read alone: it leaves every heap as it was. -/
theorem pure_call {f : Nat} {args : List AV} {R : AV → Prop} (c : ∀ h' : AH, (∀ t, h'.row t = h.row t) → h'.nx = h.nx → ACalls P f args h' fun r _ => R r) (hp : ∀ r, R r → r.plain = true) : ACalls P f args h fun r h' => R r ∧ h' = h := by
  have c := c h.ro h.ro_row rfl
  refine ⟨c.1, fun ι w vs wr hv => Calls.mono (c.2 ι w vs wr.ro hv) fun e w' he => ?_⟩
  revert he; rintro ⟨v, r, h', ι', rfl, hR, h1, h2, h3⟩
  have hkeep : ∀ b, b < w.heap.size → w'.heap[b]? = w.heap[b]? := fun b hb => h3.keep b hb fun t c l hm hc => by
    have := (AH.ro_m hm).1
    rw [hc] at this; cases this
  refine ⟨v, r, h, ι, rfl, ⟨hR, rfl⟩, plain_rel (hp r hR) h1, ⟨fun t l hl => ⟨(wr.lt t l hl).1, Nat.lt_of_lt_of_le (wr.lt t l hl).2 h3.size⟩, fun t c hc => ⟨(wr.blk t c hc).1, (wr.blk t c hc).2.mono (fun _ _ x => x) rfl fun l hl => hkeep l.b (wr.lt t l hl).2⟩, wr.inj, wr.pos, wr.nil⟩,
    ⟨Nat.le_refl _, fun _ _ => rfl, h3.os, h3.tape, h3.output, h3.size, fun b hb _ => hkeep b hb, fun t c l hm hc hl => .inr ⟨t, c, l, hm, hc, hl, rfl⟩⟩⟩
end
end Go.Am
