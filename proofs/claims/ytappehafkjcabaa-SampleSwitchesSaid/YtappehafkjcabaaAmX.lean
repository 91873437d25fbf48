/- The abstract machine: a whole world as an abstract heap that is read alone; arguments opened to their cells, through slices. -/
import Derived.Test.YtappehafkjcabaaAmW
import Derived.Deep.Slices
set_option linter.unusedVariables false
set_option linter.unusedSimpArgs false
namespace Go.Am
open Go.ChangeShapes Go.WideShapes

def isCells (W : World) (b : Nat) : Bool := match W.heap[b]? with
  | some (.cells ..) => true
  | _ => false

/-- a value of one cell, as the abstract machine sees it: block b goes under token b + 1 -/
def absC (W : World) : Value → AV
  | .bool x => .b x
  | .int k n => .i k n
  | .string s => .s s
  | .slice x n c => match x with
    | none => if n = 0 ∧ c = 0 then .sl 0 0 0 0 else .un
    | some a => if n = 0 ∧ c = 0 then .sl 0 0 0 0 else if a.spot = none ∧ n ≤ c ∧ isCells W a.block = true then .sl (a.block + 1) a.off n 0 else .un
  | _ => .un

def ιW (W : World) : Inj := fun t => match t with
  | 0 => none
  | b + 1 => match W.heap[b]? with
    | some (.cells vs _ _) => some ⟨b, 0, vs.size⟩
    | _ => none

def hW (W : World) : AH where
  m t := match t with
    | 0 => none
    | b + 1 => match W.heap[b]? with
      | some (.cells vs _ _) => some (.cells false (vs.toList.map (absC W)))
      | _ => none
  nx := W.heap.size + 1

theorem absC_rel (W : World) (v : Value) : VRel (ιW W) (absC W v) v := by
  cases v <;> simp only [absC, VRel]
  case slice x n c =>
    cases x with
    | none =>
      simp only
      split
      · rename_i h; obtain ⟨rfl, rfl⟩ := h; simp only [VRel]; exact .inl ⟨by trivial, _, rfl⟩
      · simp only [VRel]
    | some a =>
      simp only
      split
      · rename_i h; obtain ⟨rfl, rfl⟩ := h; simp only [VRel]; exact .inl ⟨by trivial, _, rfl⟩
      · split
        · rename_i h
          obtain ⟨h1, h2, h3⟩ := h
          obtain ⟨b, o, sp⟩ := a
          simp only at h1 h3
          subst h1
          simp only [VRel]
          unfold isCells at h3
          split at h3
          · rename_i vs e fz hh
            exact .inr ⟨⟨b, 0, vs.size⟩, c, by simp only [ιW, hh], by simp, h2, .inl (by trivial)⟩
          · cases h3
        · simp only [VRel]

theorem absC_rels (W : World) : ∀ (vs : List Value), VRels (ιW W) (vs.map (absC W)) vs
  | [] => rfl
  | v :: vs => by simp only [List.map_cons, VRels]; exact ⟨v, vs, rfl, absC_rel W v, absC_rels W vs⟩

theorem hW_ro (W : World) : ∀ t c, (hW W).m t = some c → c.wr = false := by
  intro t c h
  cases t with
  | zero => cases h
  | succ b =>
    simp only [hW] at h
    split at h
    · cases h; rfl
    · cases h

theorem hW_rel (W : World) : WRel (ιW W) (hW W) W where
  lt t l h := by
    cases t with
    | zero => cases h
    | succ b =>
      simp only [ιW] at h
      split at h
      · rename_i vs e fz hh
        cases h
        have hb : b < W.heap.size := (Array.getElem?_eq_some_iff.1 hh).1
        exact ⟨by simp only [hW]; omega, hb⟩
      · cases h
  blk t c h := by
    cases t with
    | zero => cases h
    | succ b =>
      simp only [hW] at h
      split at h
      · rename_i vs e fz hh
        cases h
        have hb : b < W.heap.size := (Array.getElem?_eq_some_iff.1 hh).1
        refine ⟨by simp only [hW]; omega, .inr ⟨⟨b, 0, vs.size⟩, vs, e, fz, by simp only [ιW, hh], hh, rfl, by simp, (fun q => nomatch q), fun i a hi => ?_⟩⟩
        simp only [List.getElem?_map, Option.map_eq_some_iff, Array.getElem?_toList] at hi
        obtain ⟨v, hv, rfl⟩ := hi
        exact ⟨v, by simpa using hv, absC_rel W v⟩
      · cases h
  inj t t' l l' c c' h1 h2 h3 h4 h5 h6 := by
    rw [hW_ro W t c h1, hW_ro W t' c' h2] at h6
    simp at h6
  pos := Nat.succ_pos _
  nil := rfl

theorem read_hW {W : World} {b o : Nat} {x : Value} (h : W.cell? ⟨b, o, none⟩ = some x) : (hW W).read (b + 1) o none = some (absC W x) := by
  unfold World.cell? at h
  split at h
  · rename_i vs e fz hh
    simp only at hh
    simp only [Option.isSome_none, Bool.false_eq_true, if_false] at h
    simp only [AH.read, AH.row, hW, hh, rd, List.getElem?_map, Array.getElem?_toList, h, Option.map_some]
  · cases h
theorem isCells_of {W : World} {b o : Nat} {s : Option Nat} {x : Value} (h : W.cell? ⟨b, o, s⟩ = some x) : isCells W b = true ∧ s = none := by
  unfold World.cell? at h
  split at h
  · rename_i vs e fz hh
    simp only at hh
    split at h
    · cases h
    · rename_i hs
      refine ⟨by unfold isCells; rw [hh], ?_⟩
      cases s <;> simp_all
  · cases h

inductive Kd2 where
  | i (k : IntKind)
  | b
  | s
  | sl (ks : List Kd2)

mutual
def okV (W : World) : Kd2 → Value → Prop
  | .i k, v => ∃ n, v = .int k n ∧ (Lit.int k n).wf = true
  | .b, v => ∃ x, v = .bool x
  | .s, v => ∃ x, v = .string x ∧ x.size ≤ maxLen
  | .sl ks, v => ∃ (t o n : Nat) (g : Nat → List Value), absC W v = .sl t o n 0 ∧ n ≤ maxLen ∧ ∀ i, i < n → okVs W ks (g i) ∧ ∀ j x, (g i)[j]? = some x → (hW W).read t (o + i * ks.length + j) none = some (absC W x)
def okVs (W : World) : List Kd2 → List Value → Prop
  | [], cs => cs = []
  | k :: ks, cs => ∃ v r, cs = v :: r ∧ okV W k v ∧ okVs W ks r
end

theorem okVs_length {W : World} : ∀ {ks : List Kd2} {cs : List Value}, okVs W ks cs → cs.length = ks.length
  | [], cs, h => by simp only [okVs] at h; subst h; rfl
  | k :: ks, cs, h => by
    simp only [okVs] at h
    obtain ⟨v, r, rfl, _, h⟩ := h
    simp [okVs_length h]
theorem okVs_append {W : World} : ∀ {ks ls : List Kd2} {cs ds : List Value}, okVs W ks cs → okVs W ls ds → okVs W (ks ++ ls) (cs ++ ds)
  | [], ls, cs, ds, h, k => by simp only [okVs] at h; subst h; exact k
  | x :: ks, ls, cs, ds, h, k => by
    simp only [okVs] at h
    obtain ⟨v, r, rfl, h1, h2⟩ := h
    simp only [List.cons_append, okVs]
    exact ⟨v, r ++ ds, rfl, h1, okVs_append h2 k⟩

def flatF2 (P : Program) (g : TypeId → Option (List Kd2)) : List Field → Nat → Option (List Kd2)
  | [], _ => some []
  | fd :: r, off => match g fd.type with
    | some ks => if fd.offset = off ∧ P.cellsOf fd.type = ks.length then (flatF2 P g r (off + ks.length)).map (ks ++ ·) else none
    | none => none
/-- the cells of a plain type; slices of such -/
def flat2 (P : Program) : Nat → TypeId → Option (List Kd2)
  | 0, _ => none
  | f + 1, t => match P.underlying t with
    | some (.int k) => some [.i k]
    | some .bool => some [.b]
    | some .string => some [.s]
    | some (.struct fs) => match flatF2 P (flat2 P f) fs.toList 0 with
      | some ks => if P.cellsOf t = ks.length then some ks else none
      | none => none
    | some (.array n e) => match flat2 P f e with
      | some ks => if P.cellsOf e = ks.length ∧ P.cellsOf t = n * ks.length then some (List.replicate n ks).flatten else none
      | none => none
    | some (.slice e) => match flat2 P f e with
      | some ks => if P.cellsOf e = ks.length ∧ 0 < ks.length then some [.sl ks] else none
      | none => none
    | _ => none

theorem flatF2_ok {W : World} {P : Program} {g : TypeId → Option (List Kd2)} {cs : List Value} : ∀ {l : List Field} {off : Nat} {ks : List Kd2}, flatF2 P g l off = some ks →
    (∀ fd ∈ l, ∀ ks, g fd.type = some ks → okVs W ks ((cs.drop fd.offset).take (P.cellsOf fd.type))) → okVs W ks ((cs.drop off).take ks.length)
  | [], off, ks, h, _ => by simp only [flatF2, Option.some.injEq] at h; subst h; simp [okVs]
  | fd :: r, off, ks, h, H => by
    simp only [flatF2] at h
    split at h
    · rename_i k1 hg
      split at h
      · rename_i hc
        simp only [Option.map_eq_some_iff] at h
        obtain ⟨k2, h2, rfl⟩ := h
        have a1 := H fd (by simp) k1 hg
        rw [hc.1, hc.2] at a1
        have a2 := flatF2_ok h2 fun f hf => H f (by simp [hf])
        have : (cs.drop off).take (k1 ++ k2).length = (cs.drop off).take k1.length ++ (cs.drop (off + k1.length)).take k2.length := by
          rw [List.length_append, ← List.drop_drop, List.take_add]
        rw [this]
        exact okVs_append a1 a2
      · cases h
    · cases h

theorem okVs_rep {W : World} {ks : List Kd2} : ∀ {n : Nat} {cs : List Value}, cs.length = n * ks.length → (∀ i, i < n → okVs W ks ((cs.drop (i * ks.length)).take ks.length)) → okVs W (List.replicate n ks).flatten cs
  | 0, cs, h, _ => by simp at h; subst h; simp [okVs]
  | n + 1, cs, h, H => by
    rw [List.replicate_succ, List.flatten_cons]
    have h0 := H 0 (by omega)
    simp only [Nat.zero_mul, List.drop_zero] at h0
    have h1 := okVs_rep (W := W) (ks := ks) (n := n) (cs := cs.drop ks.length) (by rw [List.length_drop, h, Nat.succ_mul]; omega) fun i hi => by
      have := H (i + 1) (by omega)
      rw [List.drop_drop]
      rwa [show ks.length + i * ks.length = (i + 1) * ks.length by rw [Nat.succ_mul]; omega]
    have := okVs_append h0 h1
    rwa [List.take_append_drop] at this

theorem choose_fn {α : Type} [Inhabited α] {n : Nat} {p : Nat → α → Prop} (h : ∀ i, i < n → ∃ x, p i x) : ∃ g : Nat → α, ∀ i, i < n → p i (g i) :=
  ⟨fun i => if hi : i < n then Classical.choose (h i hi) else default, fun i hi => by simp only [hi, dif_pos]; exact Classical.choose_spec (h i hi)⟩

section
variable {H : Type} {enc : TypeId × Value → H} {P : Program} {w : World} {held : Bool}
theorem trod_array {fuel : Nat} {t : TypeId} {cs : List Value} {x : DataW H × List MemPlace} {n : Nat} {e : TypeId} (ht : P.underlying t = some (.array n e)) (h : DataW.trod enc P w 0 (fun _ => true) held fuel t cs = some x) :
    ∃ (fu : Nat) (xs : List (DataW H × List MemPlace)), fuel = fu + 1 ∧ cs.length = P.cellsOf t ∧ xs.length = n ∧ ∀ i, i < n → DataW.trod enc P w 0 (fun _ => true) held fu e ((cs.drop (i * P.cellsOf e)).take (P.cellsOf e)) = xs[i]? := by
  cases fuel with
  | zero => simp [DataW.trod] at h
  | succ m =>
    unfold DataW.trod at h
    rw [ht] at h
    split at h <;> simp_all
    obtain ⟨hl, xs, hp, hd⟩ := h
    exact ⟨xs, by simpa using mapM_some_length hp, fun i hi => mapM_some_get hp i i (by simp [hi])⟩
theorem flat2_ok : ∀ {f : Nat} {t : TypeId} {ks : List Kd2}, flat2 P f t = some ks → ∀ {fuel : Nat} {cs : List Value} {x : DataW H × List MemPlace}, DataW.trod enc P w 0 (fun _ => true) held fuel t cs = some x → okVs w ks cs
  | 0, t, ks, h, _, _, _, _ => by simp [flat2] at h
  | f + 1, t, ks, h, fuel, cs, x, hx => by
    simp only [flat2] at h
    split at h
    · rename_i k hu
      cases h
      obtain ⟨n, rfl, _, hw⟩ := DataW.trod_int hu hx
      simp only [okVs, okV]
      exact ⟨_, [], rfl, ⟨n, rfl, hw⟩, rfl⟩
    · rename_i hu
      cases h
      obtain ⟨b, rfl, _⟩ := DataW.trod_bool hu hx
      simp only [okVs, okV]
      exact ⟨_, [], rfl, ⟨b, rfl⟩, rfl⟩
    · rename_i hu
      cases h
      obtain ⟨s, rfl, _, hs⟩ := DataW.trod_string hu hx
      simp only [okVs, okV]
      exact ⟨_, [], rfl, ⟨s, rfl, hs⟩, rfl⟩
    · rename_i fs hu
      split at h
      · rename_i k1 hk
        split at h
        · rename_i hl
          cases h
          obtain ⟨xs, n, _, _, hlen, hxs, hf⟩ := DataW.trod_struct hu hx
          have := flatF2_ok (W := w) (cs := cs) hk fun fd hfd ks hg => by
            obtain ⟨i, hi, e⟩ := List.mem_iff_getElem.1 hfd
            have hfi : fs[i]? = some fd := by
              rw [Array.getElem?_eq_getElem (by simpa using hi)]
              simpa using e
            have h1 := hf i fd hfi
            rw [List.getElem?_eq_getElem (by rw [hxs]; simpa using hi)] at h1
            exact flat2_ok hg h1
          rw [List.drop_zero, ← hl, ← hlen, List.take_length] at this
          exact this
        · cases h
      · cases h
    · rename_i n e hu
      split at h
      · rename_i k1 hk
        split at h
        · rename_i hl
          cases h
          obtain ⟨fu, xs, _, hlen, hxl, hxs⟩ := trod_array hu hx
          refine okVs_rep (by rw [hlen]; exact hl.2) fun i hi => ?_
          have := hxs i hi
          rw [hl.1, List.getElem?_eq_getElem (by omega)] at this
          exact flat2_ok hk this
        · cases h
      · cases h
    · rename_i e hu
      split at h
      · rename_i k1 hk
        split at h
        · rename_i hl
          cases h
          simp only [okVs, okV]
          rcases Go.Deep.open_slice hu hx with ⟨rfl, _⟩ | ⟨a, len, cap, m, n, D, Pl, rfl, hb, hle, hcap, hm, _, hel⟩
          · exact ⟨_, [], rfl, ⟨0, 0, 0, fun _ => [], by simp [absC], by omega, fun i hi => by omega⟩, rfl⟩
          · refine ⟨_, [], rfl, ?_, rfl⟩
            simp only [if_true] at hm
            subst hm
            by_cases h0 : m = 0
            · subst h0
              obtain rfl : len = 0 := by omega
              exact ⟨0, 0, 0, fun _ => [], by simp [absC], by omega, fun i hi => by omega⟩
            · obtain ⟨g, hg⟩ := choose_fn (α := List Value) hel
              have key : ∀ i, i < m → ∀ j x, (g i)[j]? = some x → w.cell? ((a.add (i * P.cellsOf e)).add j) = some x := fun i hi j x hj => by
                have h1 := (hg i hi).1
                unfold World.cells? at h1
                split at h1
                · have hlen := mapM_some_length h1
                  have hj' : j < (g i).length := (List.getElem?_eq_some_iff.1 hj).1
                  have := mapM_some_get h1 j j (List.getElem?_eq_some_iff.2 ⟨by omega, by simp⟩)
                  rw [this, hj]
                · cases h1
              obtain ⟨hl1, hl2⟩ := hl
              have len0 : (g 0).length = k1.length := okVs_length (flat2_ok hk (hg 0 (by omega)).2)
              obtain ⟨x0, hx0⟩ : ∃ x0, (g 0)[0]? = some x0 := ⟨(g 0)[0]'(by omega), List.getElem?_eq_getElem _⟩
              have k0 := key 0 (by omega) 0 x0 hx0
              rw [Nat.zero_mul, show (a.add 0).add 0 = a from rfl] at k0
              obtain ⟨b, o, sp⟩ := a
              obtain ⟨hc, rfl⟩ := isCells_of k0
              refine ⟨b + 1, o, len, g, ?_, by omega, fun i hi => ⟨flat2_ok hk (hg i (by omega)).2, fun j x hj => ?_⟩⟩
              · simp only [absC]
                rw [if_neg (by omega), if_pos ⟨by trivial, hle, hc⟩]
              · have := key i (by omega) j x hj
                rw [Addr.add_eq, Addr.add_eq, hl1] at this
                exact read_hW this
        · cases h
      · cases h
    · cases h

theorem open2 {base : Nat} {r : Reach} {t : TypeId} {v : Value} {d : DataW H} {p : List MemPlace} {f : Nat} {ks : List Kd2} (hk : flat2 P f t = some ks) (h : DataW.Trod enc P w 0 (fun _ => true) held t v d p) : okVs w ks v.cells.toList := by
  obtain ⟨fuel, hf⟩ := h
  exact flat2_ok hk hf
theorem okWide_array {r : Reach} {base n : Nat} {t e : TypeId} {v : Value} (ht : P.underlying t = some (.array n e)) (h : Value.okWide P w r base t v) : ∃ cs, v = .agg cs ∧ cs.size = P.cellsOf t := by
  simp only [Value.okWide, ht] at h
  obtain ⟨cs, h1, h2, _⟩ := h
  exact ⟨cs, h1, h2⟩
end

/-- an argument -/
def absA (W : World) : Value → AV
  | .agg cs => .ag (cs.toList.map (absC W))
  | v => absC W v
theorem absA_rel (W : World) (v : Value) : VRel (ιW W) (absA W v) v := by
  cases v
  case agg cs => simp only [absA, VRel]; exact ⟨cs, rfl, absC_rels W _⟩
  all_goals (simp only [absA]; exact absC_rel W _)
theorem absA_rels (W : World) : ∀ (vs : List Value), VRels (ιW W) (vs.map (absA W)) vs
  | [] => rfl
  | v :: vs => by simp only [List.map_cons, VRels]; exact ⟨v, vs, rfl, absA_rel W v, absA_rels W vs⟩
theorem law_whole {P : Program} {f : Nat} {W : World} {vs : Array Value} {as : List AV} (ha : vs.toList.map (absA W) = as) (c : ACalls P f as (hW W) fun r h' => r = .b true ∧ h' = hW W) :
    Calls P f vs W fun e w' => e = .returned (.bool true) ∧ RowKit.Below W.heap.size W w' :=
  law_call (hW_ro W) (hW_rel W) (absA_rels W vs.toList) (ha ▸ c)

/-! ### The cells of an element -/
def selI : Value → Int
  | .int _ n => n
  | _ => 0
def selB : Value → Bool
  | .bool x => x
  | _ => false
def selS : Value → ByteArray
  | .string x => x
  | _ => ByteArray.empty
theorem okVs_get {W : World} : ∀ {ks : List Kd2} {cs : List Value}, okVs W ks cs → ∀ {c : Nat} {k : Kd2}, ks[c]? = some k → ∃ x, cs[c]? = some x ∧ okV W k x
  | [], cs, h, c, k, hc => by simp at hc
  | k0 :: ks, cs, h, c, k, hc => by
    simp only [okVs] at h
    obtain ⟨v, r, rfl, h1, h2⟩ := h
    cases c with
    | zero => simp at hc; subst hc; exact ⟨v, rfl, h1⟩
    | succ c => simp at hc; obtain ⟨x, hx, hk⟩ := okVs_get h2 hc; exact ⟨x, by simpa using hx, hk⟩
theorem wf_i64 {n : Int} (h : (Lit.int .i64 n).wf = true) : -9223372036854775808 ≤ n ∧ n ≤ 9223372036854775807 := by
  simp only [Lit.wf, Bool.and_eq_true, decide_eq_true_eq] at h
  exact h
theorem wf_u8 {n : Int} (h : (Lit.int .u8 n).wf = true) : 0 ≤ n ∧ n ≤ 255 := by
  simp only [Lit.wf, Bool.and_eq_true, decide_eq_true_eq] at h
  exact h
theorem maxLen_le {n : Nat} (h : n ≤ maxLen) : n ≤ 9223372036854775807 := h

/-- what a slice's elements are read as -/
def Els (W : World) (ks : List Kd2) (t o n : Nat) (g : Nat → List Value) : Prop :=
  ∀ i, i < n → okVs W ks (g i) ∧ ∀ j x, (g i)[j]? = some x → (hW W).read t (o + i * ks.length + j) none = some (absC W x)
theorem okV_sl {W : World} {ks : List Kd2} {v : Value} (h : okV W (.sl ks) v) : ∃ (t o n : Nat) (g : Nat → List Value), absC W v = .sl t o n 0 ∧ n ≤ 9223372036854775807 ∧ Els W ks t o n g := by
  simp only [okV] at h
  exact h
section
variable {W : World} {ks : List Kd2} {t o n : Nat} {g : Nat → List Value}
theorem Els.i (h : Els W ks t o n g) (c : Nat) {k : IntKind} (hk : ks[c]? = some (.i k)) : ∀ i, i < n → (hW W).read t (o + i * ks.length + c) none = some (.i k (selI ((g i).getD c default))) ∧ (Lit.int k (selI ((g i).getD c default))).wf = true := fun i hi => by
  obtain ⟨h1, h2⟩ := h i hi
  obtain ⟨x, hx, hv⟩ := okVs_get h1 hk
  simp only [okV] at hv
  obtain ⟨m, rfl, hw⟩ := hv
  rw [List.getD_eq_getElem?_getD, hx]
  exact ⟨h2 c _ hx, hw⟩
theorem Els.b (h : Els W ks t o n g) (c : Nat) (hk : ks[c]? = some .b) : ∀ i, i < n → (hW W).read t (o + i * ks.length + c) none = some (.b (selB ((g i).getD c default))) := fun i hi => by
  obtain ⟨h1, h2⟩ := h i hi
  obtain ⟨x, hx, hv⟩ := okVs_get h1 hk
  simp only [okV] at hv
  obtain ⟨m, rfl⟩ := hv
  rw [List.getD_eq_getElem?_getD, hx]
  exact h2 c _ hx
theorem Els.sl (h : Els W ks t o n g) (c : Nat) {ls : List Kd2} (hk : ks[c]? = some (.sl ls)) : ∃ (T O L : Nat → Nat) (G : Nat → Nat → List Value), ∀ i, i < n → (hW W).read t (o + i * ks.length + c) none = some (.sl (T i) (O i) (L i) 0) ∧ L i ≤ 9223372036854775807 ∧ Els W ls (T i) (O i) (L i) (G i) := by
  obtain ⟨q, hq⟩ := choose_fn (α := Nat × Nat × Nat × (Nat → List Value)) (n := n) (p := fun i z => (hW W).read t (o + i * ks.length + c) none = some (.sl z.1 z.2.1 z.2.2.1 0) ∧ z.2.2.1 ≤ 9223372036854775807 ∧ Els W ls z.1 z.2.1 z.2.2.1 z.2.2.2) (fun i hi => by
    obtain ⟨h1, h2⟩ := h i hi
    obtain ⟨x, hx, hv⟩ := okVs_get h1 hk
    obtain ⟨t', o', n', g', e1, e2, e3⟩ := okV_sl hv
    exact ⟨⟨t', o', n', g'⟩, by rw [h2 c _ hx, e1], e2, e3⟩)
  exact ⟨fun i => (q i).1, fun i => (q i).2.1, fun i => (q i).2.2.1, fun i => (q i).2.2.2, hq⟩
end
end Go.Am
namespace Go.Am
theorem okVs1 {W : World} {k : Kd2} {v : Value} (h : okVs W [k] [v]) : okV W k v := by
  simp only [okVs] at h
  obtain ⟨_, _, e, h, rfl⟩ := h
  cases e; exact h
theorem absA_slice {W : World} {a : Option Addr} {n c : Nat} {x : AV} (h : absC W (.slice a n c) = x) : absA W (.slice a n c) = x := h
section
variable {W : World} {v0 v1 v2 v3 v4 v5 v6 : Value} {a0 a1 a2 a3 a4 a5 a6 : AV}
theorem absArgs1 (h0 : absA W v0 = a0) : (#[v0] : Array Value).toList.map (absA W) = [a0] := by simp [h0]
theorem absArgs2 (h0 : absA W v0 = a0) (h1 : absA W v1 = a1) : (#[v0, v1] : Array Value).toList.map (absA W) = [a0, a1] := by simp [h0, h1]
theorem absArgs3 (h0 : absA W v0 = a0) (h1 : absA W v1 = a1) (h2 : absA W v2 = a2) : (#[v0, v1, v2] : Array Value).toList.map (absA W) = [a0, a1, a2] := by simp [h0, h1, h2]
theorem absArgs4 (h0 : absA W v0 = a0) (h1 : absA W v1 = a1) (h2 : absA W v2 = a2) (h3 : absA W v3 = a3) : (#[v0, v1, v2, v3] : Array Value).toList.map (absA W) = [a0, a1, a2, a3] := by simp [h0, h1, h2, h3]
theorem absArgs5 (h0 : absA W v0 = a0) (h1 : absA W v1 = a1) (h2 : absA W v2 = a2) (h3 : absA W v3 = a3) (h4 : absA W v4 = a4) : (#[v0, v1, v2, v3, v4] : Array Value).toList.map (absA W) = [a0, a1, a2, a3, a4] := by simp [h0, h1, h2, h3, h4]
theorem absArgs6 (h0 : absA W v0 = a0) (h1 : absA W v1 = a1) (h2 : absA W v2 = a2) (h3 : absA W v3 = a3) (h4 : absA W v4 = a4) (h5 : absA W v5 = a5) : (#[v0, v1, v2, v3, v4, v5] : Array Value).toList.map (absA W) = [a0, a1, a2, a3, a4, a5] := by simp [h0, h1, h2, h3, h4, h5]
end
end Go.Am
