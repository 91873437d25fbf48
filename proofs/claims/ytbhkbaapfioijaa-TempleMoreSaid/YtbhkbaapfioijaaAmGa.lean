/- The abstract machine: equality of structs, arrays and strings; bytes read as a string; slicing with a capacity: sound. -/
import Derived.Test.YtbhkbaapfioijaaAmG
import Derived.Laws.StructEq
import Derived.ChangeKeysEq
set_option linter.unusedVariables false
set_option linter.unusedSimpArgs false
namespace Go.Am

theorem aeq_int {ks : List Nat} {xs ys : List AV} {b : Bool} (h : aeq (0 :: ks) xs ys = some b) : ∃ k p q r s c, xs = .i k p :: r ∧ ys = .i k q :: s ∧ aeq ks r s = some c ∧ b = (decide (p = q) && c) := by
  cases xs with
  | nil => simp [aeq] at h
  | cons x r =>
    cases ys with
    | nil => cases x <;> simp [aeq] at h
    | cons y s =>
      cases x <;> cases y <;> simp only [aeq, reduceCtorEq] at h
      case i.i k p k' q =>
        split at h
        · rename_i hk
          subst hk
          simp only [Option.map_eq_some_iff] at h
          obtain ⟨c, hc, rfl⟩ := h
          exact ⟨_, _, _, _, _, c, rfl, rfl, hc, rfl⟩
        · cases h
theorem aeq_bool {ks : List Nat} {xs ys : List AV} {b : Bool} (h : aeq (1 :: ks) xs ys = some b) : ∃ p q r s c, xs = .b p :: r ∧ ys = .b q :: s ∧ aeq ks r s = some c ∧ b = ((p == q) && c) := by
  cases xs with
  | nil => simp [aeq] at h
  | cons x r =>
    cases ys with
    | nil => cases x <;> simp [aeq] at h
    | cons y s =>
      cases x <;> cases y <;> simp only [aeq, reduceCtorEq] at h
      case b.b p q =>
        simp only [Option.map_eq_some_iff] at h
        obtain ⟨c, hc, rfl⟩ := h
        exact ⟨_, _, _, _, c, rfl, rfl, hc, rfl⟩
theorem aeq_str {ks : List Nat} {xs ys : List AV} {b : Bool} (h : aeq (2 :: ks) xs ys = some b) : ∃ p q r s c, xs = .s p :: r ∧ ys = .s q :: s ∧ aeq ks r s = some c ∧ b = ((p.toList == q.toList) && c) := by
  cases xs with
  | nil => simp [aeq] at h
  | cons x r =>
    cases ys with
    | nil => cases x <;> simp [aeq] at h
    | cons y s =>
      cases x <;> cases y <;> simp only [aeq, reduceCtorEq] at h
      case s.s p q =>
        simp only [Option.map_eq_some_iff] at h
        obtain ⟨c, hc, rfl⟩ := h
        exact ⟨_, _, _, _, c, rfl, rfl, hc, rfl⟩
theorem aeq_nil {xs ys : List AV} {b : Bool} (h : aeq [] xs ys = some b) : xs = [] ∧ ys = [] ∧ b = true := by
  cases xs <;> cases ys <;> simp [aeq] at h
  exact ⟨rfl, rfl, h⟩
theorem aeq_kind {k : Nat} {ks : List Nat} {xs ys : List AV} {b : Bool} (h : aeq (k :: ks) xs ys = some b) : k = 0 ∨ k = 1 ∨ k = 2 := by
  match k with
  | 0 => exact .inl rfl
  | 1 => exact .inr (.inl rfl)
  | 2 => exact .inr (.inr rfl)
  | k + 3 => simp [aeq] at h

theorem aeq_append : ∀ {ks : List Nat} {ls : List Nat} {xs ys : List AV} {b : Bool}, aeq (ks ++ ls) xs ys = some b → ∃ b1 b2, aeq ks (xs.take ks.length) (ys.take ks.length) = some b1 ∧ aeq ls (xs.drop ks.length) (ys.drop ks.length) = some b2 ∧ b = (b1 && b2)
  | [], ls, xs, ys, b, h => ⟨true, b, by simp [aeq], by simpa using h, by simp⟩
  | k :: ks, ls, xs, ys, b, h => by
    rw [List.cons_append] at h
    rcases aeq_kind h with rfl | rfl | rfl
    · obtain ⟨kk, p, q, r, s, c, rfl, rfl, hc, rfl⟩ := aeq_int h
      obtain ⟨b1, b2, h1, h2, rfl⟩ := aeq_append hc
      exact ⟨decide (p = q) && b1, b2, by simp [aeq, h1], by simpa using h2, by rw [Bool.and_assoc]⟩
    · obtain ⟨p, q, r, s, c, rfl, rfl, hc, rfl⟩ := aeq_bool h
      obtain ⟨b1, b2, h1, h2, rfl⟩ := aeq_append hc
      exact ⟨(p == q) && b1, b2, by simp [aeq, h1], by simpa using h2, by rw [Bool.and_assoc]⟩
    · obtain ⟨p, q, r, s, c, rfl, rfl, hc, rfl⟩ := aeq_str h
      obtain ⟨b1, b2, h1, h2, rfl⟩ := aeq_append hc
      exact ⟨(p.toList == q.toList) && b1, b2, by simp [aeq, h1], by simpa using h2, by rw [Bool.and_assoc]⟩

theorem aeq_length : ∀ {ks : List Nat} {xs ys : List AV} {b : Bool}, aeq ks xs ys = some b → xs.length = ks.length ∧ ys.length = ks.length
  | [], xs, ys, b, h => by obtain ⟨rfl, rfl, _⟩ := aeq_nil h; exact ⟨rfl, rfl⟩
  | k :: ks, xs, ys, b, h => by
    rcases aeq_kind h with rfl | rfl | rfl
    · obtain ⟨kk, p, q, r, s, c, rfl, rfl, hc, rfl⟩ := aeq_int h
      have := aeq_length hc; simp [this]
    · obtain ⟨p, q, r, s, c, rfl, rfl, hc, rfl⟩ := aeq_bool h
      have := aeq_length hc; simp [this]
    · obtain ⟨p, q, r, s, c, rfl, rfl, hc, rfl⟩ := aeq_str h
      have := aeq_length hc; simp [this]

section
variable {P : Program} {N : Nat} {ι : Inj} {st : St} {a : Act} {h : AH} {w : World}

theorem flatEq_sz {f : Nat} {t : TypeId} {n : List Nat} (hf : flatEq P f t = some n) : szOf P t = some n.length ∧ ∃ g, aggOf P t = some g ∧ (g = false → n.length = 1) := by
  cases f with
  | zero => simp [flatEq] at hf
  | succ f =>
    simp only [flatEq] at hf
    split at hf
    · rename_i hu
      split at hf
      · rename_i h; cases hf; exact ⟨h, false, by simp [aggOf, hu], fun _ => rfl⟩
      · cases hf
    · rename_i hu
      split at hf
      · rename_i h; cases hf; exact ⟨h, false, by simp [aggOf, hu], fun _ => rfl⟩
      · cases hf
    · rename_i hu
      split at hf
      · rename_i h; cases hf; exact ⟨h, false, by simp [aggOf, hu], fun _ => rfl⟩
      · cases hf
    · rename_i hu
      split at hf
      · split at hf
        · rename_i h; cases hf; exact ⟨h.2, true, by simp [aggOf, hu], fun q => nomatch q⟩
        · cases hf
      · cases hf
    · rename_i hu
      split at hf
      · split at hf
        · rename_i h; cases hf; exact ⟨h, true, by simp [aggOf, hu], fun q => nomatch q⟩
        · cases hf
      · cases hf
    · cases hf

/-- a part of a row, as a value of a type -/
theorem part_flat {f : Nat} {t : TypeId} {n : List Nat} (hf : flatEq P f t = some n) {cs : List AV} {vs : Array Value} (hr : VRels ι cs vs.toList) {off : Nat} (ho : off + n.length ≤ cs.length) (w : World) :
    ∃ v, (part t vs off).run P w = .ok v w ∧ (aggOf P t = some true → ∃ xs, v = .agg xs ∧ VRels ι ((cs.drop off).take n.length) xs.toList) ∧ (∀ p, (cs.drop off).take n.length = [p] → aggOf P t = some false → VRel ι p v) := by
  obtain ⟨hs, g, hg, h1⟩ := flatEq_sz hf
  cases g with
  | true =>
    have hx : rd cs off (some n.length) = some (.ag ((cs.drop off).take n.length)) := by simp only [rd]; rw [if_pos ho]
    obtain ⟨v, r1, r2⟩ := part_run (P := P) (t := t) (n := some n.length) (by simp [ldOf, hg, hs]) hr hx w
    simp only [VRel] at r2
    obtain ⟨x, rfl, r2⟩ := r2
    exact ⟨_, r1, fun _ => ⟨x, rfl, r2⟩, fun p _ h => by simp [hg] at h⟩
  | false =>
    have hn := h1 rfl
    obtain ⟨p, hp⟩ : ∃ p, cs[off]? = some p := ⟨cs[off]'(by omega), List.getElem?_eq_getElem _⟩
    have hx : rd cs off none = some p := hp
    obtain ⟨v, r1, r2⟩ := part_run (P := P) (t := t) (n := none) (by simp [ldOf, hg, hs, hn]) hr hx w
    have e : (cs.drop off).take n.length = [p] := by
      rw [hn]
      refine List.ext_getElem? fun i => ?_
      rw [List.getElem?_take]
      cases i with
      | zero => simp [hp]
      | succ i => simp
    exact ⟨v, r1, fun h => by simp [hg] at h, fun q hq _ => by rw [e] at hq; cases hq; exact r2⟩

/-- THE MODEL's EQUALITY at a type whose values are compared cell by cell. -/
theorem eq_flat : ∀ (f : Nat) {t : TypeId} {n : List Nat}, flatEq P f t = some n → ∀ (d : Nat), f ≤ d → ∀ {cs ds : List AV} {b : Bool} {u v : Value}, aeq n cs ds = some b →
    (∀ p, cs = [p] → aggOf P t = some false → VRel ι p u) → (∀ p, ds = [p] → aggOf P t = some false → VRel ι p v) → (aggOf P t = some true → ∃ xs, u = .agg xs ∧ VRels ι cs xs.toList) → (aggOf P t = some true → ∃ xs, v = .agg xs ∧ VRels ι ds xs.toList) →
    ∀ w : World, (Op.equalIn d t u v).run P w = .ok b w
  | 0, t, n, hf, _, _, _, _, _, _, _, _, _, _, _, _, _ => by simp [flatEq] at hf
  | f + 1, t, n, hf, d, hd, cs, ds, b, u, v, hq, u1, v1, u2, v2, w => by
    obtain ⟨d, rfl⟩ : ∃ d', d = d' + 1 := ⟨d - 1, by omega⟩
    simp only [flatEq] at hf
    split at hf
    · rename_i k hu
      split at hf
      · cases hf
        have hag : aggOf P t = some false := by simp [aggOf, hu]
        obtain ⟨kk, p, q, r, s, c, rfl, rfl, hc, rfl⟩ := aeq_int hq
        obtain ⟨rfl, rfl, rfl⟩ := aeq_nil hc
        have a1 := u1 _ rfl hag
        have a2 := v1 _ rfl hag
        simp only [VRel] at a1 a2
        subst a1; subst a2
        rw [run_equalIn_int w d t kk k p q hu, Bool.and_true]; rfl
      · cases hf
    · rename_i hu
      split at hf
      · cases hf
        have hag : aggOf P t = some false := by simp [aggOf, hu]
        obtain ⟨p, q, r, s, c, rfl, rfl, hc, rfl⟩ := aeq_bool hq
        obtain ⟨rfl, rfl, rfl⟩ := aeq_nil hc
        have a1 := u1 _ rfl hag
        have a2 := v1 _ rfl hag
        simp only [VRel] at a1 a2
        subst a1; subst a2
        rw [run_equalIn_bool d hu p q w, Bool.and_true]
      · cases hf
    · rename_i hu
      split at hf
      · cases hf
        have hag : aggOf P t = some false := by simp [aggOf, hu]
        obtain ⟨p, q, r, s, c, rfl, rfl, hc, rfl⟩ := aeq_str hq
        obtain ⟨rfl, rfl, rfl⟩ := aeq_nil hc
        have a1 := u1 _ rfl hag
        have a2 := v1 _ rfl hag
        simp only [VRel] at a1 a2
        subst a1; subst a2
        rw [run_equalIn_string w d t p q hu, Bool.and_true]
      · cases hf
    · rename_i fs hu
      split at hf
      · rename_i m hm
        split at hf
        · rename_i hc
          cases hf
          have hag : aggOf P t = some true := by simp [aggOf, hu]
          obtain ⟨xs, rfl, rx⟩ := u2 hag
          obtain ⟨ys, rfl, ry⟩ := v2 hag
          have hfo : P.fieldsOf t = fs := by simp [Program.fieldsOf, hu]
          rw [run_equalIn_struct w d t xs ys (by rw [hfo]; exact hu) hc.1, hfo]
          have lens := aeq_length hq
          have go : ∀ (l : List Field) (off : Nat) (m : List Nat) (b : Bool), flatEqF (flatEq P f) l off = some m → off + m.length ≤ cs.length → off + m.length ≤ ds.length →
              aeq m ((cs.drop off).take m.length) ((ds.drop off).take m.length) = some b → (Op.eqFields d xs ys l).run P w = .ok b w := by
            intro l
            induction l with
            | nil =>
              intro off m b hm _ _ hq
              simp only [flatEqF, Option.some.injEq] at hm
              subst hm
              simp [aeq] at hq
              subst hq
              simp [Op.eqFields]
            | cons fd l ih =>
              intro off m b hm h1 h2 hq
              simp only [flatEqF] at hm
              split at hm
              · rename_i k1 hk1
                split at hm
                · rename_i hcc
                  simp only [Option.map_eq_some_iff] at hm
                  obtain ⟨k2, hk2, rfl⟩ := hm
                  rw [List.length_append] at h1 h2
                  obtain ⟨b1, b2, q1, q2, rfl⟩ := aeq_append hq
                  rw [List.take_take, List.take_take, List.length_append, Nat.min_eq_left (Nat.le_add_right _ _)] at q1
                  rw [List.drop_take, List.drop_take, List.drop_drop, List.drop_drop, List.length_append, Nat.add_sub_cancel_left] at q2
                  obtain ⟨v1, r1, r2, r3⟩ := part_flat hk1 rx (off := off) (by omega) w
                  obtain ⟨v2, s1, s2, s3⟩ := part_flat hk1 ry (off := off) (by omega) w
                  have e := eq_flat f hk1 d (by omega) q1 r3 s3 r2 s2 w
                  have rest := ih (off + k1.length) k2 b2 hk2 (by omega) (by omega) q2
                  rw [← hcc.1] at r1 s1
                  simp only [Op.eqFields, hcc.2, ne_eq, not_false_eq_true, if_true, Sem.run_bind, r1, s1, e, Result.andThen_ok]
                  cases b1
                  · simp
                  · simp [rest]
                · cases hm
              · cases hm
          refine go fs.toList 0 _ b hm (by omega) (by omega) ?_
          rw [List.drop_zero, List.drop_zero, List.take_of_length_le (by omega), List.take_of_length_le (by omega)]
          exact hq
        · cases hf
      · cases hf
    · rename_i m e hu
      split at hf
      · rename_i k1 hk1
        split at hf
        · rename_i hc
          cases hf
          have hag : aggOf P t = some true := by simp [aggOf, hu]
          obtain ⟨xs, rfl, rx⟩ := u2 hag
          obtain ⟨ys, rfl, ry⟩ := v2 hag
          have hsz := (flatEq_sz hk1).1
          obtain ⟨i, hi, hsi⟩ : ∃ i, P.info? e = some i ∧ i.size = k1.length := by
            unfold szOf at hsz
            simp only [Option.map_eq_some_iff] at hsz
            exact hsz
          have hcell : P.cellsOf e = k1.length := by simp [Program.cellsOf, hi, hsi]
          rw [run_equalIn_array w d xs ys hu hi, hcell]
          have lens := aeq_length hq
          have hlen : (List.replicate m k1).flatten.length = m * k1.length := by simp
          have go : ∀ (m' s : Nat) (b : Bool), s + m' = m → aeq (List.replicate m' k1).flatten (cs.drop (s * k1.length)) (ds.drop (s * k1.length)) = some b → (Op.eqItems d e k1.length xs ys (List.range' s m')).run P w = .ok b w := by
            intro m'
            induction m' with
            | zero =>
              intro s b hs hq
              simp only [List.replicate_zero, List.flatten_nil] at hq
              obtain ⟨_, _, rfl⟩ := aeq_nil hq
              simp [Op.eqItems]
            | succ m' ih =>
              intro s b hs hq
              rw [List.replicate_succ, List.flatten_cons] at hq
              have hl := aeq_length hq
              simp only [List.length_append, List.length_drop] at hl
              obtain ⟨b1, b2, q1, q2, rfl⟩ := aeq_append hq
              rw [List.drop_drop, List.drop_drop, show s * k1.length + k1.length = (s + 1) * k1.length by rw [Nat.succ_mul]] at q2
              have ho : s * k1.length + k1.length ≤ cs.length ∧ s * k1.length + k1.length ≤ ds.length := by
                rcases Nat.eq_zero_or_pos k1.length with h0 | h0
                · rw [h0]; simp
                · omega
              obtain ⟨v1, r1, r2, r3⟩ := part_flat hk1 rx (off := s * k1.length) ho.1 w
              obtain ⟨v2, s1, s2, s3⟩ := part_flat hk1 ry (off := s * k1.length) ho.2 w
              have e' := eq_flat f hk1 d (by omega) q1 r3 s3 r2 s2 w
              have rest := ih (s + 1) b2 (by omega) q2
              rw [List.range'_succ]
              simp only [Op.eqItems, Sem.run_bind, r1, s1, e', Result.andThen_ok]
              cases b1
              · simp
              · simp [rest]
          have := go m 0 b (by omega) (by simpa using hq)
          rwa [← List.range_eq_range'] at this
        · cases hf
      · cases hf
    · cases hf

theorem sound_eqa (ra : ARel N ι st a) {o : Oper} {op : BinOp} {xt yt : TypeId} {x y : Operand} (ho : o.op = .binOp op xt x y yt) (hop : op = .eql ∨ op = .neq) {ks : List Nat} (hf : flatEq P 8 xt = some ks) (hag : aggOf P xt = some true) (hgd : P.eqGuardType P.depth xt = false)
    {ax ay : AX} (hx : toX x = some ax) (hy : toX y = some ay) : Sound P ι st a h w o (.eqa (op == .neq) ks ax ay) := by
  intro v hv
  have rx := toX_sound ra hx
  have ry := toX_sound ra hy
  simp only [AOp.ev] at hv
  split at hv
  · rename_i cs ds h1 h2
    simp only [Option.map_eq_some_iff] at hv
    obtain ⟨b, hb, rfl⟩ := hv
    rw [h1] at rx
    rw [h2] at ry
    simp only [VRel] at rx ry
    obtain ⟨xs, hxs, rx⟩ := rx
    obtain ⟨ys, hys, ry⟩ := ry
    have e := eq_flat (P := P) (ι := ι) 8 hf 10000 (by omega) hb (u := .agg xs) (v := .agg ys) (fun p _ hq => by simp [hag] at hq) (fun p _ hq => by simp [hag] at hq) (fun _ => ⟨xs, rfl, rx⟩) (fun _ => ⟨ys, rfl, ry⟩) w
    refine ⟨.bool (b != (op == .neq)), ?_, by simp only [VRel]⟩
    simp only [execOp, ho, hxs, hys]
    have hg := run_eqGuard_agg (P := P) w op xt x y xs ys hgd
    rcases hop with rfl | rfl
    · have : (b != (BinOp.eql == BinOp.neq)) = b := by cases b <;> rfl
      simp [hg, run_eql_struct, e, this]
    · have : (b != (BinOp.neq == BinOp.neq)) = !b := by cases b <;> rfl
      simp [hg, run_neq_struct, e, this]
  · cases hv

theorem sound_eqs (ra : ARel N ι st a) {o : Oper} {op : BinOp} {xt yt : TypeId} {x y : Operand} (ho : o.op = .binOp op xt x y yt) (hop : op = .eql ∨ op = .neq)
    {ax ay : AX} (hx : toX x = some ax) (hy : toX y = some ay) : Sound P ι st a h w o (.eqs (op == .neq) ax ay) := by
  intro v hv
  have rx := toX_sound ra hx
  have ry := toX_sound ra hy
  simp only [AOp.ev] at hv
  split at hv
  · rename_i p q h1 h2
    cases hv
    rw [h1] at rx
    rw [h2] at ry
    simp only [VRel] at rx ry
    refine ⟨.bool ((p.toList == q.toList) != (op == .neq)), ?_, by simp only [VRel]⟩
    simp only [execOp, ho, rx, ry]
    have hg : (eqGuard op xt x y (.string p) (.string q)).run P w = .ok () w := by
      unfold eqGuard; split <;> rfl
    rcases hop with rfl | rfl
    · have : ∀ b : Bool, (b != (BinOp.eql == BinOp.neq)) = b := fun b => by cases b <;> rfl
      simp [hg, binOp, Op.stringOp, this]
    · have : ∀ b : Bool, (b != (BinOp.neq == BinOp.neq)) = !b := fun b => by cases b <;> rfl
      simp [hg, binOp, Op.stringOp, this]
  · cases hv

theorem abytes_cells : ∀ {cs : List AV} {l : List UInt8} {vs : List Value}, abytes cs = some l → VRels ι cs vs → ∃ ns : List Int, vs = ns.map (Value.int .u8) ∧ l = ns.map (fun n => UInt8.ofNat n.toNat)
  | [], l, vs, h, r => by
    simp only [abytes, Option.some.injEq] at h
    simp only [VRels] at r
    subst h; subst r; exact ⟨[], rfl, rfl⟩
  | c :: cs, l, vs, h, r => by
    unfold abytes at h
    split at h
    · rename_i h0; cases h0
    · rename_i n r' h0
      cases h0
      simp only [Option.map_eq_some_iff] at h
      obtain ⟨l', hl, rfl⟩ := h
      simp only [VRels] at r
      obtain ⟨v, q, rfl, r1, r2⟩ := r
      simp only [VRel] at r1
      subst r1
      obtain ⟨ns, rfl, rfl⟩ := abytes_cells hl r2
      exact ⟨n :: ns, rfl, rfl⟩
    · cases h

theorem push_bytes (ns : List Int) : ∀ (s : ByteArray), (ns.foldl (fun (s : ByteArray) n => s.push (UInt8.ofNat n.toNat)) s) = ⟨s.data ++ (ns.map fun n => UInt8.ofNat n.toNat).toArray⟩ := by
  induction ns with
  | nil => intro s; simp
  | cons n ns ih => intro s; rw [List.foldl_cons, ih]; simp [ByteArray.push]

theorem sound_str (ra : ARel N ι st a) (rw' : WRel ι h w) {o : Oper} {s d : TypeId} {x : Operand} (ho : o.op = .convert s d x) {e : TypeId} (hs : P.underlying s = some (.slice e)) (he : P.underlying e = some (.int .u8)) (hd : P.underlying d = some .string)
    {ax : AX} (hx : toX x = some ax) : Sound P ι st a h w o (.str ax) := by
  intro v hv
  have rx := toX_sound ra hx
  simp only [AOp.ev] at hv
  split at hv
  · rename_i t o' n m h1
    rw [h1] at rx
    simp only [VRel] at rx
    split at hv
    · rename_i h0
      cases hv
      subst h0
      refine ⟨.string ByteArray.empty, ?_, by simp only [VRel]⟩
      rcases rx with ⟨_, y, hy⟩ | ⟨l, cap, hl, hy, _⟩
      · cases y with
        | none => simp [execOp, ho, hy, convert, und_run hs, und_run hd, und_run he, Conv.bytesToString]
        | some y => simp [execOp, ho, hy, convert, und_run hs, und_run hd, und_run he, Conv.bytesToString, loadCells, loadCellsFrom]
      · simp [execOp, ho, hy, convert, und_run hs, und_run hd, und_run he, Conv.bytesToString, loadCells, loadCellsFrom]
    · rename_i h0
      split at hv
      · rename_i cs hr
        split at hv
        · rename_i hle
          simp only [Option.map_eq_some_iff] at hv
          obtain ⟨l, hl, rfl⟩ := hv
          rcases rx with ⟨hn, _⟩ | ⟨lc, cap, hlc, hy, _⟩
          · exact absurd hn h0
          obtain ⟨vs, r1, r2⟩ := loadCells_of_row (P := P) rw' hr hle hlc
          obtain ⟨ns, hns, rfl⟩ := abytes_cells hl r2
          refine ⟨.string ⟨(ns.map fun n => UInt8.ofNat n.toNat).toArray⟩, ?_, by simp only [VRel]⟩
          have hvs : vs = (ns.map (Value.int .u8)).toArray := by rw [← hns]
          subst hvs
          simp only [execOp, ho, hy]
          simp [convert, und_run hs, und_run hd, und_run he, Conv.bytesToString, r1]
          have := push_bytes ns ByteArray.empty
          rw [show (List.foldl (fun (b : ByteArray) a => b.push (UInt8.ofNat a.toNat)) ByteArray.empty ns) = _ from this]
          simp
        · cases hv
      · cases hv
  · rename_i n cs h1
    rw [h1] at rx
    simp only [VRel] at rx
    split at hv
    · rename_i hle
      simp only [Option.map_eq_some_iff] at hv
      obtain ⟨l, hl, rfl⟩ := hv
      rcases rx with ⟨hn, y, hy⟩ | ⟨b, s0, cap, xs, hy, hc, hf, hr0⟩
      · have : cs = [] := List.length_eq_zero_iff.1 (by omega)
        subst this
        simp only [abytes, Option.some.injEq] at hl
        subst hl
        refine ⟨.string ByteArray.empty, ?_, by simp only [VRel]; rfl⟩
        cases y with
        | none => simp [execOp, ho, hy, convert, und_run hs, und_run hd, und_run he, Conv.bytesToString]
        | some y => simp [execOp, ho, hy, convert, und_run hs, und_run hd, und_run he, Conv.bytesToString, loadCells, loadCellsFrom]
      · obtain ⟨vs, r1, r2⟩ := loadCells_of_phi (P := P) rw' hf hr0 (o := 0) (n := n) (by omega)
        rw [List.drop_zero, hle, List.take_length] at r2
        obtain ⟨ns, hns, rfl⟩ := abytes_cells hl r2
        refine ⟨.string ⟨(ns.map fun n => UInt8.ofNat n.toNat).toArray⟩, ?_, by simp only [VRel]⟩
        have hvs : vs = (ns.map (Value.int .u8)).toArray := by rw [← hns]
        subst hvs
        simp only [Nat.add_zero] at r1
        simp only [execOp, ho, hy]
        simp [convert, und_run hs, und_run hd, und_run he, Conv.bytesToString, r1]
        have := push_bytes ns ByteArray.empty
        rw [show (List.foldl (fun (b : ByteArray) a => b.push (UInt8.ofNat a.toNat)) ByteArray.empty ns) = _ from this]
        simp
    · cases hv
  · cases hv

theorem sound_sl3 (ra : ARel N ι st a) {o : Oper} {t : TypeId} {x hi mx : Operand} {lo : Option Operand} (ho : o.op = .slice t x lo (some hi) (some mx)) {e : TypeId} (hs : P.underlying t = some (.slice e)) {k : Nat} (hk : szOf P e = some k)
    {ax ah am : AX} (hx : toX x = some ax) {al : Option AX} (hl : toXo lo = some al) (hh : toX hi = some ah) (hm : toX mx = some am) : Sound P ι st a h w o (.sl3 k ax al ah am) := by
  intro v hv
  simp only [AOp.ev] at hv
  have rx := toX_sound ra hx
  split at hv
  · rename_i t' o' n m h1
    rw [h1] at rx
    simp only [VRel] at rx
    split at hv
    · rename_i l hh' mm hb1 hb2 hb3
      split at hv
      · rename_i hle
        have b1 := bound_sound ra hl hb1
        have b2 := bound_sound ra (show toXo (some hi) = some (some ah) by simp [toXo, hh]) hb2
        have b3 := bound_sound ra (show toXo (some mx) = some (some am) by simp [toXo, hm]) hb3
        rcases b2 with ⟨q, _⟩ | ⟨y2, k2, m2, e2, r2, z2, rfl⟩
        · cases q
        rcases b3 with ⟨q, _⟩ | ⟨y3, k3, m3, e3, r3, z3, rfl⟩
        · cases q
        cases e2; cases e3
        have run : ∀ cap, n ≤ cap → (Instr.sliceBounds true n cap (lo.map a.eval) (some (a.eval hi)) (some (a.eval mx))).run P w = .ok (l, m2.toNat, m3.toNat) w := by
          intro cap hc
          have c3 : m3 ≤ (cap : Int) := by omega
          have c2 : m2 ≤ (m3.toNat : Int) := by omega
          rcases b1 with ⟨rfl, rfl⟩ | ⟨y1, k1, m1, rfl, r1, z1, rfl⟩
          · have c2' : m2 ≤ max m3 0 := by omega
            simp [Instr.sliceBounds, Instr.sliceBound, asIntOf, r2, r3, z2, z3, c2', c3, Int.not_lt.2 c2']
          · have c1 : m1 ≤ max m2 0 := by omega
            have c2' : m2 ≤ max m3 0 := by omega
            simp [Instr.sliceBounds, Instr.sliceBound, asIntOf, r1, r2, r3, z1, z2, z3, c1, c2', c3, Int.not_lt.2 c1, Int.not_lt.2 c2']
        rcases rx with ⟨rfl, y, hy⟩ | ⟨lc, cap, hlc, hy, hc, hcap⟩
        · have hr := run 0 (Nat.le_refl 0)
          have hl0 : l = 0 := by omega
          have hh0 : m2.toNat = 0 := by omega
          have hm0 : m3.toNat = 0 := by omega
          rw [hl0, hh0, hm0] at hr
          rw [if_pos (by omega)] at hv
          cases hv
          refine ⟨.slice y 0 0, by simp [execOp, ho, hy, Instr.sliceAt, Instr.slice, und_run hs, hr, szOf_run hk], ?_⟩
          simp only [VRel]
          exact Or.inl ⟨by first | trivial | omega, y, rfl⟩
        · have hr := run cap hc
          refine ⟨.slice (if m3.toNat = l then some (⟨lc.b, lc.sh + o', none⟩ : Addr) else some (Addr.add ⟨lc.b, lc.sh + o', none⟩ (l * k))) (m2.toNat - l) (m3.toNat - l), by simp [execOp, ho, hy, Instr.sliceAt, Instr.slice, und_run hs, hr, szOf_run hk], ?_⟩
          by_cases hcl : m3.toNat = l
          · rw [if_pos hcl] at hv
            cases hv
            simp only [VRel]
            exact .inl ⟨by trivial, _, by rw [show m2.toNat - l = 0 by omega, show m3.toNat - l = 0 by omega]⟩
          · rw [if_neg hcl] at hv
            cases hv
            simp only [VRel]
            right
            refine ⟨lc, m3.toNat - l, hlc, ?_, by omega, ?_⟩
            · rw [if_neg hcl]
              rw [Addr.add_eq, Nat.add_assoc]
            · split
              · rename_i hmk
                subst hmk
                have q1 : l * m + (m3.toNat - l) * m = m3.toNat * m := by rw [← Nat.add_mul]; congr 1; omega
                have q2 : m3.toNat * m ≤ cap * m := Nat.mul_le_mul_right m (by omega)
                rcases hcap with h0 | hcap
                · exact .inl h0
                · exact .inr (by omega)
              · exact .inl rfl
      · cases hv
    · cases hv
  · rename_i n cs h1
    rw [h1] at rx
    simp only [VRel] at rx
    split at hv
    · rename_i l hh' mm hb1 hb2 hb3
      split at hv
      · rename_i hle
        have b1 := bound_sound ra hl hb1
        have b2 := bound_sound ra (show toXo (some hi) = some (some ah) by simp [toXo, hh]) hb2
        have b3 := bound_sound ra (show toXo (some mx) = some (some am) by simp [toXo, hm]) hb3
        rcases b2 with ⟨q, _⟩ | ⟨y2, k2, m2, e2, r2, z2, rfl⟩
        · cases q
        rcases b3 with ⟨q, _⟩ | ⟨y3, k3, m3, e3, r3, z3, rfl⟩
        · cases q
        cases e2; cases e3
        have run : ∀ cap, n ≤ cap → (Instr.sliceBounds true n cap (lo.map a.eval) (some (a.eval hi)) (some (a.eval mx))).run P w = .ok (l, m2.toNat, m3.toNat) w := by
          intro cap hc
          have c3 : m3 ≤ (cap : Int) := by omega
          have c2 : m2 ≤ (m3.toNat : Int) := by omega
          rcases b1 with ⟨rfl, rfl⟩ | ⟨y1, k1, m1, rfl, r1, z1, rfl⟩
          · have c2' : m2 ≤ max m3 0 := by omega
            simp [Instr.sliceBounds, Instr.sliceBound, asIntOf, r2, r3, z2, z3, c2', c3, Int.not_lt.2 c2']
          · have c1 : m1 ≤ max m2 0 := by omega
            have c2' : m2 ≤ max m3 0 := by omega
            simp [Instr.sliceBounds, Instr.sliceBound, asIntOf, r1, r2, r3, z1, z2, z3, c1, c2', c3, Int.not_lt.2 c1, Int.not_lt.2 c2']
        cases hv
        have hcl := hle.2.2.2
        rcases rx with ⟨rfl, y, hy⟩ | ⟨b, s, cap, xs, hy, hc, hf, hr0⟩
        · have hr := run 0 (Nat.le_refl 0)
          have hl0 : l = 0 := by omega
          have hh0 : m2.toNat = 0 := by omega
          have hm0 : m3.toNat = 0 := by omega
          rw [hl0, hh0, hm0] at hr
          refine ⟨.slice y 0 0, by simp [execOp, ho, hy, Instr.sliceAt, Instr.slice, und_run hs, hr, szOf_run hk], ?_⟩
          simp only [VRel]
          exact Or.inl ⟨by first | trivial | omega, y, rfl⟩
        · have hr := run cap hc
          refine ⟨.slice (if m3.toNat = l then some (⟨b, s, none⟩ : Addr) else some (Addr.add ⟨b, s, none⟩ (l * k))) (m2.toNat - l) (m3.toNat - l), by simp [execOp, ho, hy, Instr.sliceAt, Instr.slice, und_run hs, hr, szOf_run hk], ?_⟩
          simp only [VRel]
          exact .inl ⟨by trivial, _, by rw [show m2.toNat - l = 0 by omega, show m3.toNat - l = 0 by omega]⟩
      · cases hv
    · cases hv
  · cases hv
end
end Go.Am
