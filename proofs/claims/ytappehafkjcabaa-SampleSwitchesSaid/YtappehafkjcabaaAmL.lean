/- The abstract machine: a region that draws its order. -/
import Derived.Test.YtappehafkjcabaaAmK
set_option linter.unusedVariables false
set_option linter.unusedSimpArgs false
namespace Go.Am

def stD (aops : List AOper) (ρ : Nat → AV) (st0 : St) (D : Nat → Bool) : Nat → St
  | 0 => st0
  | k + 1 => if D k then put ((aops[k]?).bind (·.d)) (ρ k) (stD aops ρ st0 D k) else stD aops ρ st0 D k
def hD (β : Nat → Option (List AV)) (hb : AH) (base : Nat) (D : Nat → Bool) : Nat → AH
  | 0 => hb
  | k + 1 => if D k then setNb (hD β hb base D k) (base + k) (β k) else hD β hb base D k
def full : Nat → Bool := fun _ => true

theorem put_get (d : Option Nat) (v : AV) (st : St) (x : Nat) : (put d v st).get x = if d = some x then v else st.get x := by
  cases d with
  | none => simp [put]
  | some d =>
    simp only [put, St.get, Option.some.injEq]
    by_cases h : x = d
    · subst h; simp
    · rw [if_neg h, if_neg (fun e => h e.symm)]

section
variable {aops : List AOper} {ρ ρ' : Nat → AV} {β β' : Nat → Option (List AV)} {st0 : St} {hb : AH} {base : Nat} {D D' : Nat → Bool}

theorem stD_congr : ∀ {k : Nat}, (∀ j, j < k → ρ j = ρ' j ∧ D j = D' j) → stD aops ρ st0 D k = stD aops ρ' st0 D' k
  | 0, _ => rfl
  | k + 1, h => by
    obtain ⟨h1, h2⟩ := h k (Nat.lt_succ_self _)
    simp only [stD, stD_congr (k := k) fun j hj => h j (by omega), h1, h2]
theorem hD_congr : ∀ {k : Nat}, (∀ j, j < k → β j = β' j ∧ D j = D' j) → hD β hb base D k = hD β' hb base D' k
  | 0, _ => rfl
  | k + 1, h => by
    obtain ⟨h1, h2⟩ := h k (Nat.lt_succ_self _)
    simp only [hD, hD_congr (k := k) fun j hj => h j (by omega), h1, h2]

theorem setNb_nx (h : AH) (t : Nat) (b : Option (List AV)) : (setNb h t b).nx = h.nx := by cases b <;> rfl
theorem hD_nx : ∀ (k : Nat), (hD β hb base D k).nx = hb.nx
  | 0 => rfl
  | k + 1 => by simp only [hD]; split <;> simp [setNb_nx, hD_nx k]
theorem hD_m : ∀ (k t : Nat), (hD β hb base D k).m t = if base ≤ t ∧ t < base + k ∧ D (t - base) = true then (match β (t - base) with | some cs => some (.cells true cs) | none => hb.m t) else hb.m t
  | 0, t => by simp only [hD]; rw [if_neg (by omega)]
  | k + 1, t => by
    simp only [hD]
    by_cases hd : D k = true
    · rw [if_pos hd]
      by_cases ht : t = base + k
      · subst ht
        rw [if_pos ⟨by omega, by omega, by simpa using hd⟩]
        simp only [Nat.add_sub_cancel_left]
        cases hq : β k with
        | none =>
          simp only [setNb]
          rw [hD_m k, if_neg (by omega)]
        | some cs => simp [setNb, AH.set]
      · have e1 : (setNb (hD β hb base D k) (base + k) (β k)).m t = (hD β hb base D k).m t := by
          cases β k <;> simp [setNb, AH.set, ht]
        rw [e1, hD_m k t]
        by_cases hc : base ≤ t ∧ t < base + k ∧ D (t - base) = true
        · rw [if_pos hc, if_pos ⟨hc.1, by omega, hc.2.2⟩]
        · rw [if_neg hc, if_neg (fun h => hc ⟨h.1, by omega, h.2.2⟩)]
    · rw [if_neg hd, hD_m k t]
      by_cases hc : base ≤ t ∧ t < base + k ∧ D (t - base) = true
      · rw [if_pos hc, if_pos ⟨hc.1, by omega, hc.2.2⟩]
      · rw [if_neg hc, if_neg]
        rintro ⟨q1, q2, q3⟩
        have : t ≠ base + k := fun e => by subst e; simp at q3; exact hd q3
        exact hc ⟨q1, by omega, q3⟩

/-- What the quiet operations of a region yield, one behind the other. -/
theorem head_ok {P : Program} {m : Nat} (hm : m ≤ aops.length) {K : St → AH → Prop} : ∀ (k i : Nat), i + k = m → ∀ (ρ0 : Nat → AV) (β0 : Nat → Option (List AV)),
    evHead P base hb ((aops.drop i).take k) i (stD aops ρ0 st0 full i) (hD β0 hb base full i) K →
    ∃ ρ β, (∀ j, j < i → ρ j = ρ0 j ∧ β j = β0 j) ∧ (∀ j ao, i ≤ j → j < m → aops[j]? = some ao → okG P (base + j) hb ao (stD aops ρ st0 full j) (hD β hb base full j) (ρ j) (β j)) ∧
      K (stD aops ρ st0 full m) (hD β hb base full m)
  | 0, i, hi, ρ0, β0, e => by
    simp only [List.take_zero, evHead] at e
    have : i = m := by omega
    subst this
    exact ⟨ρ0, β0, fun _ _ => ⟨rfl, rfl⟩, fun j ao h1 h2 => by omega, e⟩
  | k + 1, i, hi, ρ0, β0, e => by
    have hlt : i < aops.length := by omega
    rw [List.drop_eq_getElem_cons hlt, List.take_succ_cons] at e
    simp only [evHead] at e
    obtain ⟨v, nb, hok, hK⟩ := okG_of e
    let ρ1 : Nat → AV := fun j => if j = i then v else ρ0 j
    let β1 : Nat → Option (List AV) := fun j => if j = i then nb else β0 j
    have hlow : ∀ j, j < i → ρ1 j = ρ0 j ∧ β1 j = β0 j := fun j hj => by
      have : j ≠ i := by omega
      simp [ρ1, β1, this]
    have e1 : stD aops ρ1 st0 full (i + 1) = put aops[i].d v (stD aops ρ0 st0 full i) := by
      simp only [stD, full, if_true, List.getElem?_eq_getElem hlt, Option.bind_some]
      rw [stD_congr (ρ := ρ1) (ρ' := ρ0) (D := full) (D' := full) fun j hj => ⟨(hlow j hj).1, rfl⟩]
      simp [ρ1]
    have e2 : hD β1 hb base full (i + 1) = setNb (hD β0 hb base full i) (base + i) nb := by
      simp only [hD, full, if_true]
      rw [hD_congr (β := β1) (β' := β0) (D := full) (D' := full) fun j hj => ⟨(hlow j hj).2, rfl⟩]
      simp [β1]
    obtain ⟨ρ, β, h1, h2, h3⟩ := head_ok hm k (i + 1) (by omega) ρ1 β1 (by rw [e1, e2]; exact hK)
    refine ⟨ρ, β, fun j hj => ?_, fun j ao hij hjm hao => ?_, h3⟩
    · obtain ⟨q1, q2⟩ := h1 j (by omega)
      exact ⟨q1.trans (hlow j hj).1, q2.trans (hlow j hj).2⟩
    · by_cases hji : j = i
      · subst hji
        obtain ⟨q1, q2⟩ := h1 j (by omega)
        have hao' : aops[j] = ao := by rw [List.getElem?_eq_getElem hlt] at hao; simpa using hao
        rw [← hao', q1, q2]
        rw [stD_congr (ρ := ρ) (ρ' := ρ0) (D' := full) fun l hl => ⟨(h1 l (by omega)).1.trans (hlow l hl).1, rfl⟩,
          hD_congr (β := β) (β' := β0) (D' := full) fun l hl => ⟨(h1 l (by omega)).2.trans (hlow l hl).2, rfl⟩]
        simpa [ρ1, β1] using hok
      · exact h2 j ao (by omega) hjm hao
end

/-! ### What is asked of a region's operations, and how it is looked up -/
def AOper.clash (x y : AOper) : Bool :=
  (match x.d with | some d => y.reads.contains d || y.d == some d | none => false) || (match y.d with | some d => x.reads.contains d | none => false)
def AX.noPtr : AX → Bool
  | .c (.p _ _) => false
  | .c (.sl _ _ n _) => n == 0
  | .c (.mp _) => false
  | _ => true

structure HeadOK (ops : Array Oper) (aops : List AOper) (dep : Nat → Nat → Prop) (m : Nat) : Prop where
  c1 : ∀ (j : Nat) (o : Oper) (e : Edge), ops[j]? = some o → e ∈ o.after → Region.binds .any e = true → e.on < j
  c2 : ∀ (j : Nat) (o : Oper) (i : Nat), ops[j]? = some o → dep i j → ∃ e ∈ o.after, Region.binds .any e = true ∧ (e.on = i ∨ dep i e.on)
  c3 : ∀ (i j : Nat) (ai aj : AOper), i < j → aops[i]? = some ai → aops[j]? = some aj → ai.clash aj = true → dep i j
  c4 : ∀ i j, m ≤ j → j < ops.size → i < j → dep i j
  c5 : ∀ (i : Nat) (ai : AOper), aops[i]? = some ai → ∀ x ∈ ai.op.xs, x.noPtr = true

section
variable {ops : Array Oper} {aops : List AOper} {dep : Nat → Nat → Prop} {m : Nat} {D : Nat → Bool}

def Closed (ops : Array Oper) (D : Nat → Bool) : Prop := ∀ (j : Nat) (o : Oper) (e : Edge), D j = true → ops[j]? = some o → e ∈ o.after → Region.binds .any e = true → D e.on = true

theorem closed_dep (H : HeadOK ops aops dep m) (hc : Closed ops D) (hin : ∀ j, D j = true → j < ops.size) : ∀ (j i : Nat), D j = true → dep i j → D i = true := by
  intro j
  induction j using Nat.strongRecOn with
  | _ j ih =>
    intro i hj hd
    have hlt := hin j hj
    have ho : ops[j]? = some ops[j] := by simp [hlt]
    obtain ⟨e, he, hb, hor⟩ := H.c2 j _ i ho hd
    have hde := hc j _ e hj ho he hb
    rcases hor with rfl | hor
    · exact hde
    · exact ih e.on (H.c1 j _ e ho he hb) i hde hor

theorem clash_iff {x y : AOper} {d : Nat} : (x.d = some d ∧ (d ∈ y.reads ∨ y.d = some d)) ∨ (y.d = some d ∧ d ∈ x.reads) → x.clash y = true := by
  unfold AOper.clash
  rintro (⟨h1, h2⟩ | ⟨h1, h2⟩)
  · simp only [h1]
    rcases h2 with h2 | h2
    · simp [h2]
    · simp [h2]
  · simp [h1, h2]

variable {ρ : Nat → AV} {β : Nat → Option (List AV)} {st0 : St} {hb : AH} {base : Nat}

/-- The slots that an operation looks at hold what they hold in the text's order. -/
theorem slots_same (H : HeadOK ops aops dep m) (hlen : aops.length = ops.size) (hc : Closed ops D) (hin : ∀ j, D j = true → j < ops.size) {i : Nat} {ai : AOper} (hai : aops[i]? = some ai) (him : i < m) (hni : D i = false)
    (hdeps : ∀ k, dep k i → D k = true) {x : Nat} (hx : x ∈ ai.reads) : (stD aops ρ st0 D m).get x = (stD aops ρ st0 full i).get x := by
  have low : ∀ k, k ≤ i → (stD aops ρ st0 D k).get x = (stD aops ρ st0 full k).get x := by
    intro k
    induction k with
    | zero => intro _; rfl
    | succ k ih =>
      intro hk
      simp only [stD, full, if_true]
      by_cases hd : D k = true
      · rw [if_pos hd, put_get, put_get, ih (by omega)]
      · have hnk : ¬ ((aops[k]?.bind fun x => x.d) = some x) := by
          intro hdk
          cases hak : aops[k]? with
          | none => rw [hak] at hdk; cases hdk
          | some ak =>
            rw [hak] at hdk
            exact hd (hdeps k (H.c3 k i ak ai (by omega) hak hai (clash_iff (.inl ⟨hdk, .inl hx⟩))))
        rw [if_neg hd, put_get, if_neg hnk]
        exact ih (by omega)
  have high : ∀ k, i ≤ k → (stD aops ρ st0 D k).get x = (stD aops ρ st0 D i).get x := by
    intro k hk
    induction k with
    | zero => have : i = 0 := by omega
              subst this; rfl
    | succ k ih =>
      by_cases hik : i = k + 1
      · subst hik; rfl
      · simp only [stD]
        by_cases hd : D k = true
        · rw [if_pos hd, put_get, if_neg ?_, ih (by omega)]
          intro hdk
          have hne : k ≠ i := fun e => by subst e; rw [hni] at hd; cases hd
          cases hak : aops[k]? with
          | none => rw [hak] at hdk; cases hdk
          | some ak =>
            rw [hak] at hdk
            have := closed_dep H hc hin k i hd (H.c3 i k ai ak (by omega) hai hak (clash_iff (.inr ⟨hdk, hx⟩)))
            rw [hni] at this; cases this
        · rw [if_neg hd]; exact ih (by omega)
  rw [high m (by omega), low i (Nat.le_refl _)]

/-- One operation more. -/
theorem stD_insert (H : HeadOK ops aops dep m) (hc : Closed ops D) (hin : ∀ j, D j = true → j < ops.size) {i : Nat} {ai : AOper} (hai : aops[i]? = some ai) (him : i < m) (hni : D i = false) (x : Nat) :
    (stD aops ρ st0 (fun j => D j || j == i) m).get x = (put ai.d (ρ i) (stD aops ρ st0 D m)).get x := by
  have key : ∀ k, i < k → (stD aops ρ st0 (fun j => D j || j == i) k).get x = (put ai.d (ρ i) (stD aops ρ st0 D k)).get x := by
    intro k hk
    induction k with
    | zero => omega
    | succ k ih =>
      by_cases hik : k = i
      · subst hik
        simp only [stD, hni, Bool.false_or, beq_self_eq_true, if_true, hai, Option.bind_some, Bool.false_eq_true, if_false]
        have hlow : stD aops ρ st0 (fun j => D j || j == k) k = stD aops ρ st0 D k := stD_congr fun j hj => by
          have : (j == k) = false := by simp; omega
          exact ⟨rfl, by simp [this]⟩
        rw [hlow]
      · have hb' : (k == i) = false := by simpa using hik
        simp only [stD, hb', Bool.or_false]
        by_cases hd : D k = true
        · rw [if_pos hd, if_pos hd, put_get, ih (by omega), put_get, put_get, put_get]
          by_cases h1 : (aops[k]?.bind fun x => x.d) = some x
          · rw [if_pos h1, if_pos h1]
            split
            · rename_i h2
              cases hak : aops[k]? with
              | none => rw [hak] at h1; cases h1
              | some ak =>
                rw [hak] at h1
                have := closed_dep H hc hin k i hd (H.c3 i k ai ak (by omega) hai hak (clash_iff (.inl ⟨h2, .inr h1⟩)))
                rw [hni] at this; cases this
            · rfl
          · rw [if_neg h1, if_neg h1]
        · rw [if_neg hd, if_neg hd]; exact ih (by omega)
  exact key m him

theorem hD_insert {i : Nat} (him : i < m) (hni : D i = false) (hnone : ∀ t, base ≤ t → hb.m t = none) : hD β hb base (fun j => D j || j == i) m = setNb (hD β hb base D m) (base + i) (β i) := by
  have hx : ∀ (a b : AH), (∀ t, a.m t = b.m t) → a.nx = b.nx → a = b := by
    intro a b h1 h2
    cases a; cases b
    simp only [AH.mk.injEq]
    exact ⟨funext h1, h2⟩
  refine hx _ _ (fun t => ?_) (by rw [hD_nx, setNb_nx, hD_nx])
  rw [hD_m]
  by_cases ht : t = base + i
  · subst ht
    rw [if_pos ⟨by omega, by omega, by simp⟩]
    simp only [Nat.add_sub_cancel_left]
    cases hq : β i with
    | none =>
      simp only [setNb]
      rw [hD_m, if_neg (fun h => by simp [hni] at h)]
    | some cs => simp [setNb, AH.set]
  · have e1 : (setNb (hD β hb base D m) (base + i) (β i)).m t = (hD β hb base D m).m t := by
      cases β i <;> simp [setNb, AH.set, ht]
    rw [e1, hD_m]
    by_cases hb1 : base ≤ t
    · have : (t - base == i) = false := by simp; omega
      simp only [this, Bool.or_false]
    · rw [if_neg (fun h => hb1 h.1), if_neg (fun h => hb1 h.1)]
end
end Go.Am
