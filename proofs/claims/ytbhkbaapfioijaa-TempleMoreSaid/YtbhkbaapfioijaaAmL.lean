/- The abstract machine: a region that draws its order. -/
import Derived.Test.YtbhkbaapfioijaaAmK
set_option linter.unusedVariables false
set_option linter.unusedSimpArgs false
namespace Go.Am

def stD (aops : List AOper) (ρ : Nat → AV) (st0 : St) (D : Nat → Bool) : Nat → St
  | 0 => st0
  | k + 1 => if D k then put ((aops[k]?).bind (·.d)) (ρ k) (stD aops ρ st0 D k) else stD aops ρ st0 D k
def hD (β : Nat → NB) (hb : AH) (D : Nat → Bool) : Nat → AH
  | 0 => hb
  | k + 1 => if D k then setE (hD β hb D k) (β k) else hD β hb D k
def full : Nat → Bool := fun _ => true

theorem put_get (d : Option Nat) (v : AV) (st : St) (x : Nat) : (put d v st).get x = if d = some x then v else st.get x := by
  cases d with
  | none => simp [put]
  | some d =>
    simp only [put, St.get, Option.some.injEq]
    by_cases h : x = d
    · subst h; simp
    · rw [if_neg h, if_neg (fun e => h e.symm)]

section
variable {aops : List AOper} {ρ ρ' : Nat → AV} {β β' : Nat → NB} {st0 : St} {hb : AH} {base : Nat} {D D' : Nat → Bool}

theorem stD_congr : ∀ {k : Nat}, (∀ j, j < k → ρ j = ρ' j ∧ D j = D' j) → stD aops ρ st0 D k = stD aops ρ' st0 D' k
  | 0, _ => rfl
  | k + 1, h => by
    obtain ⟨h1, h2⟩ := h k (Nat.lt_succ_self _)
    simp only [stD, stD_congr (k := k) fun j hj => h j (by omega), h1, h2]
theorem hD_congr : ∀ {k : Nat}, (∀ j, j < k → β j = β' j ∧ D j = D' j) → hD β hb D k = hD β' hb D' k
  | 0, _ => rfl
  | k + 1, h => by
    obtain ⟨h1, h2⟩ := h k (Nat.lt_succ_self _)
    simp only [hD, hD_congr (k := k) fun j hj => h j (by omega), h1, h2]

theorem setE_nx (h : AH) (b : NB) : (setE h b).nx = h.nx := by cases b <;> rfl
theorem setE_m (h : AH) (b : NB) (t : Nat) : (setE h b).m t = match b with | some (t', c) => if t = t' then some c else h.m t | none => h.m t := by
  rcases b with _ | ⟨t', c⟩ <;> rfl
theorem setE_ne (h : AH) {b : NB} {t : Nat} (hn : ∀ c, b ≠ some (t, c)) : (setE h b).m t = h.m t := by
  rcases b with _ | ⟨t', c⟩
  · rfl
  · simp only [setE, AH.set]
    rw [if_neg (fun e => hn c (by rw [e]))]
theorem setE_same (h : AH) (t : Nat) (c : Blk) : (setE h (some (t, c))).m t = some c := by simp [setE, AH.set]
theorem hD_nx : ∀ (k : Nat), (hD β hb D k).nx = hb.nx
  | 0 => rfl
  | k + 1 => by simp only [hD]; split <;> simp [setE_nx, hD_nx k]

/-- What the quiet operations of a region yield, one behind the other. -/
theorem head_ok {P : Program} {m : Nat} (hm : m ≤ aops.length) {K : St → AH → Prop} : ∀ (k i : Nat), i + k = m → ∀ (ρ0 : Nat → AV) (β0 : Nat → NB),
    evHead P base hb ((aops.drop i).take k) i (stD aops ρ0 st0 full i) (hD β0 hb full i) K →
    ∃ ρ β, (∀ j, j < i → ρ j = ρ0 j ∧ β j = β0 j) ∧ (∀ j ao, i ≤ j → j < m → aops[j]? = some ao → okG P (base + j) hb ao (stD aops ρ st0 full j) (hD β hb full j) (ρ j) (β j)) ∧
      K (stD aops ρ st0 full m) (hD β hb full m)
  | 0, i, hi, ρ0, β0, e => by
    simp only [List.take_zero, evHead] at e
    have : i = m := by omega
    subst this
    exact ⟨ρ0, β0, fun _ _ => ⟨rfl, rfl⟩, fun j ao h1 h2 => by omega, e⟩
  | k + 1, i, hi, ρ0, β0, e => by
    have hlt : i < aops.length := by omega
    rw [List.drop_eq_getElem_cons hlt, List.take_succ_cons] at e
    simp only [evHead] at e
    obtain ⟨v, nb, hok, hK⟩ := okG_of e
    let ρ1 : Nat → AV := fun j => if j = i then v else ρ0 j
    let β1 : Nat → NB := fun j => if j = i then nb else β0 j
    have hlow : ∀ j, j < i → ρ1 j = ρ0 j ∧ β1 j = β0 j := fun j hj => by
      have : j ≠ i := by omega
      simp [ρ1, β1, this]
    have e1 : stD aops ρ1 st0 full (i + 1) = put aops[i].d v (stD aops ρ0 st0 full i) := by
      simp only [stD, full, if_true, List.getElem?_eq_getElem hlt, Option.bind_some]
      rw [stD_congr (ρ := ρ1) (ρ' := ρ0) (D := full) (D' := full) fun j hj => ⟨(hlow j hj).1, rfl⟩]
      simp [ρ1]
    have e2 : hD β1 hb full (i + 1) = setE (hD β0 hb full i) nb := by
      simp only [hD, full, if_true]
      rw [hD_congr (β := β1) (β' := β0) (D := full) (D' := full) fun j hj => ⟨(hlow j hj).2, rfl⟩]
      simp [β1]
    obtain ⟨ρ, β, h1, h2, h3⟩ := head_ok hm k (i + 1) (by omega) ρ1 β1 (by rw [e1, e2]; exact hK)
    refine ⟨ρ, β, fun j hj => ?_, fun j ao hij hjm hao => ?_, h3⟩
    · obtain ⟨q1, q2⟩ := h1 j (by omega)
      exact ⟨q1.trans (hlow j hj).1, q2.trans (hlow j hj).2⟩
    · by_cases hji : j = i
      · subst hji
        obtain ⟨q1, q2⟩ := h1 j (by omega)
        have hao' : aops[j] = ao := by rw [List.getElem?_eq_getElem hlt] at hao; simpa using hao
        rw [← hao', q1, q2]
        rw [stD_congr (ρ := ρ) (ρ' := ρ0) (D' := full) fun l hl => ⟨(h1 l (by omega)).1.trans (hlow l hl).1, rfl⟩,
          hD_congr (β := β) (β' := β0) (D' := full) fun l hl => ⟨(h1 l (by omega)).2.trans (hlow l hl).2, rfl⟩]
        simpa [ρ1, β1] using hok
      · exact h2 j ao (by omega) hjm hao
end

/-! ### What is asked of a region's operations, and how it is looked up -/
def AOper.clash (x y : AOper) : Bool :=
  (match x.d with | some d => y.reads.contains d || y.d == some d | none => false) || (match y.d with | some d => x.reads.contains d | none => false)
def AX.noPtr : AX → Bool
  | .c (.p _ _) => false
  | .c (.sl _ _ n _) => n == 0
  | .c (.mp _) => false
  | _ => true

structure HeadOK (ops : Array Oper) (aops : List AOper) (dep : Nat → Nat → Prop) (m : Nat) : Prop where
  c1 : ∀ (j : Nat) (o : Oper) (e : Edge), ops[j]? = some o → e ∈ o.after → Region.binds .any e = true → e.on < j
  c2 : ∀ (j : Nat) (o : Oper) (i : Nat), ops[j]? = some o → dep i j → ∃ e ∈ o.after, Region.binds .any e = true ∧ (e.on = i ∨ dep i e.on)
  c3 : ∀ (i j : Nat) (ai aj : AOper), i < j → aops[i]? = some ai → aops[j]? = some aj → ai.clash aj = true → dep i j
  c4 : ∀ i j, m ≤ j → j < ops.size → i < j → dep i j
  c5 : ∀ (i : Nat) (ai : AOper), aops[i]? = some ai → ∀ x ∈ ai.op.xs, x.noPtr = true
  c6 : ∀ (i k : Nat) (ai ak : AOper), i < m → k < m → aops[i]? = some ai → aops[k]? = some ak → ai.op.late = true → ak.op.late = true → i = k
  c7 : ∀ (i j : Nat) (ai aj : AOper), i < m → j < m → aops[i]? = some ai → aops[j]? = some aj → ai.op.late = true → ai.op.lateOk = true ∧ aj.op.cal = false
  c8 : ∀ (k i j : Nat) (ak ai aj : AOper), k < m → i ≤ j → j < m → aops[k]? = some ak → ak.op.late = true → aops[i]? = some ai → aops[j]? = some aj → ai.op.free = false → ∀ x, x ∈ ai.reads → aj.d ≠ some x

/-- apart: no one block -/
def tokNe (a b : AV) : Prop := a.tok = none ∨ b.tok = none ∨ a.tok ≠ b.tok
/-- what other operations read is not what the store y writes -/
def sepG (st : St) (y : AX) : List AOper → Prop
  | [] => True
  | a :: r => (a.op.free = false → a.op.late = false → ∀ x ∈ a.op.xs, tokNe (y.val (stS true st)) (x.val (stS true st))) ∧ sepG st y r
def sepP (ops : List AOper) (st : St) : Prop := ∀ ak ∈ ops, ak.op.late = true → ∀ y, ak.op.xs.head? = some y → sepG st y ops
theorem sepG_at {st : St} {y : AX} {a : AOper} : ∀ {l : List AOper}, sepG st y l → a ∈ l → a.op.free = false → a.op.late = false → ∀ x ∈ a.op.xs, tokNe (y.val (stS true st)) (x.val (stS true st))
  | [], _, h, _, _, _, _ => by cases h
  | b :: r, hs, h, h1, h2, x, hx => by
    rcases List.mem_cons.1 h with rfl | h
    · exact hs.1 h1 h2 x hx
    · exact sepG_at hs.2 h h1 h2 x hx

section
variable {ops : Array Oper} {aops : List AOper} {dep : Nat → Nat → Prop} {m : Nat} {D : Nat → Bool}

def Closed (ops : Array Oper) (D : Nat → Bool) : Prop := ∀ (j : Nat) (o : Oper) (e : Edge), D j = true → ops[j]? = some o → e ∈ o.after → Region.binds .any e = true → D e.on = true

theorem closed_dep (H : HeadOK ops aops dep m) (hc : Closed ops D) (hin : ∀ j, D j = true → j < ops.size) : ∀ (j i : Nat), D j = true → dep i j → D i = true := by
  intro j
  induction j using Nat.strongRecOn with
  | _ j ih =>
    intro i hj hd
    have hlt := hin j hj
    have ho : ops[j]? = some ops[j] := by simp [hlt]
    obtain ⟨e, he, hb, hor⟩ := H.c2 j _ i ho hd
    have hde := hc j _ e hj ho he hb
    rcases hor with rfl | hor
    · exact hde
    · exact ih e.on (H.c1 j _ e ho he hb) i hde hor

theorem clash_iff {x y : AOper} {d : Nat} : (x.d = some d ∧ (d ∈ y.reads ∨ y.d = some d)) ∨ (y.d = some d ∧ d ∈ x.reads) → x.clash y = true := by
  unfold AOper.clash
  rintro (⟨h1, h2⟩ | ⟨h1, h2⟩)
  · simp only [h1]
    rcases h2 with h2 | h2
    · simp [h2]
    · simp [h2]
  · simp [h1, h2]

variable {ρ : Nat → AV} {β : Nat → NB} {st0 : St} {hb : AH} {base : Nat}

/-- The slots that an operation looks at hold what they hold in the text's order. -/
theorem slots_same (H : HeadOK ops aops dep m) (hlen : aops.length = ops.size) (hc : Closed ops D) (hin : ∀ j, D j = true → j < ops.size) {i : Nat} {ai : AOper} (hai : aops[i]? = some ai) (him : i < m) (hni : D i = false)
    (hdeps : ∀ k, dep k i → D k = true) {x : Nat} (hx : x ∈ ai.reads) : (stD aops ρ st0 D m).get x = (stD aops ρ st0 full i).get x := by
  have low : ∀ k, k ≤ i → (stD aops ρ st0 D k).get x = (stD aops ρ st0 full k).get x := by
    intro k
    induction k with
    | zero => intro _; rfl
    | succ k ih =>
      intro hk
      simp only [stD, full, if_true]
      by_cases hd : D k = true
      · rw [if_pos hd, put_get, put_get, ih (by omega)]
      · have hnk : ¬ ((aops[k]?.bind fun x => x.d) = some x) := by
          intro hdk
          cases hak : aops[k]? with
          | none => rw [hak] at hdk; cases hdk
          | some ak =>
            rw [hak] at hdk
            exact hd (hdeps k (H.c3 k i ak ai (by omega) hak hai (clash_iff (.inl ⟨hdk, .inl hx⟩))))
        rw [if_neg hd, put_get, if_neg hnk]
        exact ih (by omega)
  have high : ∀ k, i ≤ k → (stD aops ρ st0 D k).get x = (stD aops ρ st0 D i).get x := by
    intro k hk
    induction k with
    | zero => have : i = 0 := by omega
              subst this; rfl
    | succ k ih =>
      by_cases hik : i = k + 1
      · subst hik; rfl
      · simp only [stD]
        by_cases hd : D k = true
        · rw [if_pos hd, put_get, if_neg ?_, ih (by omega)]
          intro hdk
          have hne : k ≠ i := fun e => by subst e; rw [hni] at hd; cases hd
          cases hak : aops[k]? with
          | none => rw [hak] at hdk; cases hdk
          | some ak =>
            rw [hak] at hdk
            have := closed_dep H hc hin k i hd (H.c3 i k ai ak (by omega) hai hak (clash_iff (.inr ⟨hdk, hx⟩)))
            rw [hni] at this; cases this
        · rw [if_neg hd]; exact ih (by omega)
  rw [high m (by omega), low i (Nat.le_refl _)]

/-- One operation more. -/
theorem stD_insert (H : HeadOK ops aops dep m) (hc : Closed ops D) (hin : ∀ j, D j = true → j < ops.size) {i : Nat} {ai : AOper} (hai : aops[i]? = some ai) (him : i < m) (hni : D i = false) (x : Nat) :
    (stD aops ρ st0 (fun j => D j || j == i) m).get x = (put ai.d (ρ i) (stD aops ρ st0 D m)).get x := by
  have key : ∀ k, i < k → (stD aops ρ st0 (fun j => D j || j == i) k).get x = (put ai.d (ρ i) (stD aops ρ st0 D k)).get x := by
    intro k hk
    induction k with
    | zero => omega
    | succ k ih =>
      by_cases hik : k = i
      · subst hik
        simp only [stD, hni, Bool.false_or, beq_self_eq_true, if_true, hai, Option.bind_some, Bool.false_eq_true, if_false]
        have hlow : stD aops ρ st0 (fun j => D j || j == k) k = stD aops ρ st0 D k := stD_congr fun j hj => by
          have : (j == k) = false := by simp; omega
          exact ⟨rfl, by simp [this]⟩
        rw [hlow]
      · have hb' : (k == i) = false := by simpa using hik
        simp only [stD, hb', Bool.or_false]
        by_cases hd : D k = true
        · rw [if_pos hd, if_pos hd, put_get, ih (by omega), put_get, put_get, put_get]
          by_cases h1 : (aops[k]?.bind fun x => x.d) = some x
          · rw [if_pos h1, if_pos h1]
            split
            · rename_i h2
              cases hak : aops[k]? with
              | none => rw [hak] at h1; cases h1
              | some ak =>
                rw [hak] at h1
                have := closed_dep H hc hin k i hd (H.c3 i k ai ak (by omega) hai hak (clash_iff (.inl ⟨h2, .inr h1⟩)))
                rw [hni] at this; cases this
            · rfl
          · rw [if_neg h1, if_neg h1]
        · rw [if_neg hd, if_neg hd]; exact ih (by omega)
  exact key m him

/-- what is known of the blocks that a region's head makes or writes -/
structure NbOK (aops : List AOper) (hb : AH) (base m : Nat) (ρ : Nat → AV) (st0 : St) (β : Nat → NB) : Prop where
  nb : ∀ j, j < m → ∀ t c, β j = some (t, c) → ∃ ao, aops[j]? = some ao ∧ ((t = base + j ∧ ao.op.late = false) ∨ (ao.op.late = true ∧ (∃ c0, (hD β hb full j).m t = some c0) ∧ (ao.op.lateOk = true → goodB c) ∧ ∃ y, ao.op.xs.head? = some y ∧ (y.val (stS true (stD aops ρ st0 full j))).tok = some t))
  sep : ∀ (i k : Nat) (ai ak : AOper), i < m → k < m → aops[i]? = some ai → aops[k]? = some ak → ai.op.free = false → ai.op.late = false → ak.op.late = true → ∀ y, ak.op.xs.head? = some y → ∀ x ∈ ai.op.xs, ∀ t, (y.val (stS true (stD aops ρ st0 full k))).tok = some t → (x.val (stS true (stD aops ρ st0 full i))).tok = some t → False
  none' : ∀ t, base ≤ t → hb.m t = none
variable (B : NbOK aops hb base m ρ st0 β)
include B
theorem full_lt : ∀ (i : Nat), i ≤ m → ∀ t c, (hD β hb full i).m t = some c → t < base + i
  | 0, _, t, c, h => by
    rcases Nat.lt_or_ge t base with q | q
    · omega
    · rw [show hD β hb full 0 = hb from rfl, B.none' t q] at h; cases h
  | i + 1, hi, t, c, h => by
    simp only [hD, full, if_true] at h
    by_cases hn : ∀ c, β i ≠ some (t, c)
    · rw [setE_ne _ hn] at h
      have := full_lt i (by omega) t c h; omega
    · obtain ⟨c1, h1⟩ := Classical.not_forall.1 hn
      obtain ⟨ao, _, h2⟩ := B.nb i (by omega) t c1 (Classical.not_not.1 h1)
      rcases h2 with ⟨h2, _⟩ | ⟨_, ⟨c0, h2⟩, _⟩
      · omega
      · have := full_lt i (by omega) t c0 h2; omega
omit B in
theorem hD_none {D : Nat → Bool} {t : Nat} : ∀ (k : Nat), (∀ j c, j < k → D j = true → β j ≠ some (t, c)) → (hD β hb D k).m t = hb.m t
  | 0, _ => rfl
  | k + 1, h => by
    simp only [hD]
    split
    · rename_i hd
      rw [setE_ne _ fun c => h k c (by omega) hd]
      exact hD_none k fun j c hj => h j c (by omega)
    · exact hD_none k fun j c hj => h j c (by omega)
theorem hD_le (hnl : ∀ j ao, j < m → aops[j]? = some ao → ao.op.late = false) : hb.le (hD β hb D m) :=
  by
  refine ⟨fun t c ht => ?_, by rw [hD_nx]; exact Nat.le_refl _⟩
  rw [hD_none m fun j c hj hd hb' => ?_]
  · exact ht
  · obtain ⟨ao, hao, h2⟩ := B.nb j hj t c hb'
    rcases h2 with ⟨h2, _⟩ | ⟨h2, _⟩
    · rw [B.none' t (by omega)] at ht; cases ht
    · rw [hnl j ao hj hao] at h2; cases h2
/-- a block that a late store set is one of the world's -/
theorem late_good (hgood : ∀ j ao, j < m → aops[j]? = some ao → ao.op.late = true → ao.op.lateOk = true) {j : Nat} {ao : AOper} {t : Nat} {c : Blk} (hj : j < m) (hao : aops[j]? = some ao) (hl : ao.op.late = true) (hbj : β j = some (t, c)) (hd : D j = true) :
    ∀ k, j < k → k ≤ m → ∃ c', (hD β hb D k).m t = some c' ∧ goodB c'
  | 0, h, _ => by omega
  | k + 1, hk, hm => by
    simp only [hD]
    have hjt : t < base + j := by
      obtain ⟨ao', hao', h2⟩ := B.nb j hj t c hbj
      rw [hao] at hao'; cases hao'
      rcases h2 with ⟨_, h2⟩ | ⟨_, ⟨c0, h2⟩, _⟩
      · rw [hl] at h2; cases h2
      · exact full_lt B j (by omega) t c0 h2
    have own : ∀ c1, β k = some (t, c1) → goodB c1 := by
      intro c1 h1
      obtain ⟨ao', hao', h2⟩ := B.nb k (by omega) t c1 h1
      rcases h2 with ⟨h2, _⟩ | ⟨h2, _, h3, _⟩
      · omega
      · exact h3 (hgood k ao' (by omega) hao' h2)
    by_cases hdk : D k = true
    · rw [if_pos hdk]
      by_cases hn : ∀ c, β k ≠ some (t, c)
      · rw [setE_ne _ hn]
        have : j ≠ k := fun e => by subst e; exact hn c hbj
        exact late_good hgood hj hao hl hbj hd k (by omega) (by omega)
      · obtain ⟨c1, h1⟩ := Classical.not_forall.1 hn
        have h1 := Classical.not_not.1 h1
        rw [h1, setE_same]
        exact ⟨c1, rfl, own c1 h1⟩
    · rw [if_neg hdk]
      have : j ≠ k := fun e => by subst e; exact hdk hd
      exact late_good hgood hj hao hl hbj hd k (by omega) (by omega)

/-- The block that an operation reads is the one of the text's order. -/
theorem read_same (H : HeadOK ops aops dep m) (hc : Closed ops D) (hin : ∀ j, D j = true → j < ops.size) {i : Nat} {ai : AOper} (hai : aops[i]? = some ai) (him : i < m) (hni : D i = false) (hfree : ai.op.free = false)
    (hdeps : ∀ k, dep k i → D k = true) {t : Nat} {x : AX} (hx : x ∈ ai.op.xs) (hxt : (x.val (stS true (stD aops ρ st0 full i))).tok = some t) (hnew : ∀ j, j < m → D j = false → t ≠ base + j) {c : Blk} (hr : (hD β hb full i).m t = some c) : (hD β hb D m).m t = some c := by
  have hti := full_lt B i (by omega) t c hr
  have late2 : ∀ k ao, k < m → k ≠ i → aops[k]? = some ao → ao.op.late = true → ∀ y, ao.op.xs.head? = some y → (y.val (stS true (stD aops ρ st0 full k))).tok = some t → False := by
    intro k ao hk hne hao hl y hy1 hy2
    have hnl : ai.op.late = false := by
      cases h : ai.op.late with
      | false => rfl
      | true => exact absurd (H.c6 i k ai ao him hk hai hao h hl).symm hne
    exact B.sep i k ai ao him hk hai hao hfree hnl hl y hy1 x hx t hy2 hxt
  have low : ∀ k, k ≤ i → (hD β hb D k).m t = (hD β hb full k).m t := by
    intro k
    induction k with
    | zero => intro _; rfl
    | succ k ih =>
      intro hk
      simp only [hD, full, if_true]
      by_cases hd : D k = true
      · rw [if_pos hd, setE_m, setE_m, ih (by omega)]
      · rw [if_neg hd, ih (by omega), setE_ne]
        intro c' hb'
        obtain ⟨ao, hao, h2⟩ := B.nb k (by omega) t c' hb'
        rcases h2 with ⟨h2, _⟩ | ⟨h2, _, _, y, hy1, hy2⟩
        · exact hnew k (by omega) (by simpa using hd) h2
        · exact late2 k ao (by omega) (by omega) hao h2 y hy1 hy2
  have high : ∀ k, i ≤ k → k ≤ m → (hD β hb D k).m t = (hD β hb D i).m t := by
    intro k hk
    induction k with
    | zero => intro _; have : i = 0 := by omega
              subst this; rfl
    | succ k ih =>
      intro hkm
      by_cases hik : i = k + 1
      · subst hik; rfl
      · simp only [hD]
        by_cases hd : D k = true
        · rw [if_pos hd, setE_ne, ih (by omega) (by omega)]
          intro c' hb'
          have hne : k ≠ i := fun e => by subst e; rw [hni] at hd; cases hd
          obtain ⟨ao, hao, h2⟩ := B.nb k (by omega) t c' hb'
          rcases h2 with ⟨h2, _⟩ | ⟨h2, _, _, y, hy1, hy2⟩
          · omega
          · exact late2 k ao (by omega) hne hao h2 y hy1 hy2
        · rw [if_neg hd]; exact ih (by omega) (by omega)
  rw [high m (by omega) (Nat.le_refl _), low i (Nat.le_refl _)]; exact hr

theorem hD_insert (H : HeadOK ops aops dep m) (hc : Closed ops D) (hin : ∀ j, D j = true → j < ops.size) {i : Nat} {ai : AOper} (hai : aops[i]? = some ai) (him : i < m) (hni : D i = false)
    (hreal : ∀ j ao t c, j < m → D j = true → aops[j]? = some ao → ao.op.late = true → β j = some (t, c) → t ≠ base + i) : hD β hb (fun j => D j || j == i) m = setE (hD β hb D m) (β i) := by
  have hx : ∀ (a b : AH), (∀ t, a.m t = b.m t) → a.nx = b.nx → a = b := by
    intro a b h1 h2
    cases a; cases b
    simp only [AH.mk.injEq]
    exact ⟨funext h1, h2⟩
  refine hx _ _ (fun t => ?_) (by rw [hD_nx, setE_nx, hD_nx])
  have hlow : hD β hb (fun j => D j || j == i) i = hD β hb D i := hD_congr fun j hj => by
    have : (j == i) = false := by simp; omega
    exact ⟨rfl, by simp [this]⟩
  have key : ∀ k, i < k → k ≤ m → (hD β hb (fun j => D j || j == i) k).m t = (setE (hD β hb D k) (β i)).m t := by
    intro k hk
    induction k with
    | zero => omega
    | succ k ih =>
      intro hkm
      by_cases hik : k = i
      · subst hik
        simp only [hD, hni, Bool.false_or, beq_self_eq_true, if_true, Bool.false_eq_true, if_false]
        rw [hlow]
      · have hb' : (k == i) = false := by simpa using hik
        simp only [hD, hb', Bool.or_false]
        by_cases hd : D k = true
        · rw [if_pos hd, if_pos hd]
          have ih := ih (by omega) (by omega)
          cases hbi : β i with
          | none => rw [hbi] at ih; rw [setE_m, ih]; simp only [setE]; rw [← setE_m]; rfl
          | some p =>
            obtain ⟨t', c'⟩ := p
            rw [hbi] at ih
            by_cases ht : t = t'
            · subst ht
              rw [setE_same] at ih ⊢
              rw [setE_ne, ih]
              intro c2 h2
              obtain ⟨ao, hao, q⟩ := B.nb k (by omega) t c2 h2
              obtain ⟨ai', hai', q'⟩ := B.nb i him t c' hbi
              rw [hai] at hai'; cases hai'
              rcases q' with ⟨q', hl'⟩ | ⟨q', ⟨c0, q2⟩, _⟩
              · rcases q with ⟨q, _⟩ | ⟨q, _⟩
                · omega
                · exact hreal k ao t c2 (by omega) hd hao q h2 q'
              · have := full_lt B i (by omega) t c0 q2
                rcases q with ⟨q, _⟩ | ⟨q, _⟩
                · omega
                · exact hik (H.c6 k i ao ai (by omega) him hao hai q q')
            · have e1 : ∀ h : AH, (setE h (some (t', c'))).m t = h.m t := fun h => setE_ne _ fun c e => by cases e; exact ht rfl
              rw [e1] at ih ⊢
              rw [setE_m, setE_m, ih]
        · rw [if_neg hd, if_neg hd]; exact ih (by omega) (by omega)
  exact key m him (Nat.le_refl _)
end
end Go.Am
