/- What the proof of the law needs: the abstract machine, the functions as it reads them, their contracts, part 3. -/
import Derived.Test.YtjaihaccehaicaaDoorZb
import Derived.Deep.Slices
import Derived.Shelf.SlSortCmp.NoneTotal
set_option linter.unusedVariables false
set_option linter.unusedSimpArgs false
namespace Go.Am
def il (l : List Int) : List AV := l.map (AV.i .i64)
def bl (l : List Bool) : List AV := l.map AV.b
def fl {α : Type} (enc : α → List AV) (l : List α) : List AV := (l.map enc).flatten
abbrev vi (l : List Int) : AV := .vs l.length (il l)
def ul (l : List Int) : List AV := l.map (AV.i .u8)
theorem ul_len (l : List Int) : (ul l).length = l.length := by simp [ul]
theorem ul_get {l : List Int} {j : Nat} (h : j < l.length) : (ul l)[j]? = some (.i .u8 (l.getD j 0)) := by simp [ul, h]
theorem ul_nil : ul [] = [] := rfl
theorem ul_snoc (l : List Int) (x : Int) : ul l ++ [.i .u8 x] = ul (l ++ [x]) := by simp [ul]
theorem ul_app (l m : List Int) : ul l ++ ul m = ul (l ++ m) := by simp [ul]
theorem ul_drop (l : List Int) (n : Nat) : (ul l).drop n = ul (l.drop n) := by simp [ul]
theorem ul_take (l : List Int) (n : Nat) : (ul l).take n = ul (l.take n) := by simp [ul]
theorem ul_set (l : List Int) (j : Nat) (x : Int) : (ul l).set j (.i .u8 x) = ul (l.set j x) := by simp [ul]
theorem ul_one (l : List Int) : (ul l).all AV.one = true := by simp [ul, AV.one]
theorem ul_abytes : ∀ (l : List Int), abytes (ul l) = some (l.map fun n => UInt8.ofNat n.toNat)
 | [] => rfl
 | x :: l => by
   have := ul_abytes l
   simp only [ul] at this
   simp only [ul, List.map_cons, abytes, this, Option.map_some]
theorem il_len (l : List Int) : (il l).length = l.length := by simp [il]
theorem bl_len (l : List Bool) : (bl l).length = l.length := by simp [bl]
theorem il_get {l : List Int} {j : Nat} (h : j < l.length) : (il l)[j]? = some (.i .i64 (l.getD j 0)) := by simp [il, h]
theorem bl_get {l : List Bool} {j : Nat} (h : j < l.length) : (bl l)[j]? = some (.b (l.getD j false)) := by simp [bl, h]
theorem il_nil : il [] = [] := rfl
theorem bl_nil : bl [] = [] := rfl
theorem il_snoc (l : List Int) (x : Int) : il l ++ [.i .i64 x] = il (l ++ [x]) := by simp [il]
theorem bl_snoc (l : List Bool) (x : Bool) : bl l ++ [.b x] = bl (l ++ [x]) := by simp [bl]
theorem il_app (l m : List Int) : il l ++ il m = il (l ++ m) := by simp [il]
theorem il_drop (l : List Int) (n : Nat) : (il l).drop n = il (l.drop n) := by simp [il]
theorem il_take (l : List Int) (n : Nat) : (il l).take n = il (l.take n) := by simp [il]
theorem il_set (l : List Int) (j : Nat) (x : Int) : (il l).set j (.i .i64 x) = il (l.set j x) := by simp [il]
theorem bl_set (l : List Bool) (j : Nat) (x : Bool) : (bl l).set j (.b x) = bl (l.set j x) := by simp [bl]
theorem il_one (l : List Int) : (il l).all AV.one = true := by simp [il, AV.one]
theorem bl_one (l : List Bool) : (bl l).all AV.one = true := by simp [bl, AV.one]
theorem plains_all : ∀ {l : List AV}, (∀ x ∈ l, x.plain = true) → AV.plains l = true
 | [], _ => rfl
 | y :: ys, h => by simp only [AV.plains, Bool.and_eq_true]; exact ⟨h y (by simp), plains_all fun x hx => h x (by simp [hx])⟩
theorem plains_app : ∀ {l m : List AV}, AV.plains l = true → AV.plains m = true → AV.plains (l ++ m) = true
 | [], m, _, h => h
 | y :: ys, m, h, k => by
   simp only [AV.plains, Bool.and_eq_true] at h
   simp only [List.cons_append, AV.plains, Bool.and_eq_true]
   exact ⟨h.1, plains_app h.2 k⟩
theorem il_plain (l : List Int) : AV.plains (il l) = true := plains_all fun x hx => by
 simp only [il, List.mem_map] at hx
 obtain ⟨y, _, rfl⟩ := hx; rfl
theorem bl_plain (l : List Bool) : AV.plains (bl l) = true := plains_all fun x hx => by
 simp only [bl, List.mem_map] at hx
 obtain ⟨y, _, rfl⟩ := hx; rfl
section
variable {α : Type} {enc : α → List AV} {k : Nat}
theorem fl_cons (x : α) (l : List α) : fl enc (x :: l) = enc x ++ fl enc l := by simp [fl]
theorem fl_snoc (l : List α) (x : α) : fl enc l ++ enc x = fl enc (l ++ [x]) := by simp [fl]
theorem fl_len (hk : ∀ x, (enc x).length = k) : ∀ (l : List α), (fl enc l).length = l.length * k
 | [] => by simp [fl]
 | x :: l => by rw [fl_cons, List.length_append, hk, fl_len hk l, List.length_cons, Nat.succ_mul, Nat.add_comm]
theorem fl_drop (hk : ∀ x, (enc x).length = k) : ∀ (l : List α) (n : Nat), (fl enc l).drop (n * k) = fl enc (l.drop n)
 | l, 0 => by simp
 | [], n + 1 => by simp [fl]
 | x :: l, n + 1 => by
   rw [fl_cons, Nat.succ_mul, List.drop_succ_cons, Nat.add_comm, ← List.drop_drop, List.drop_append_of_le_length (by rw [hk]; exact Nat.le_refl _), List.drop_of_length_le (l := enc x) (by rw [hk]; exact Nat.le_refl _), List.nil_append]
   exact fl_drop hk l n
theorem fl_take (hk : ∀ x, (enc x).length = k) : ∀ (l : List α) (n : Nat), (fl enc l).take (n * k) = fl enc (l.take n)
 | l, 0 => by simp [fl]
 | [], n + 1 => by simp [fl]
 | x :: l, n + 1 => by
   rw [fl_cons, Nat.succ_mul, List.take_succ_cons, fl_cons, Nat.add_comm, List.take_add, List.take_append_of_le_length (by rw [hk]; exact Nat.le_refl _), List.take_of_length_le (by rw [hk]; exact Nat.le_refl _), List.drop_append_of_le_length (by rw [hk]; exact Nat.le_refl _), List.drop_of_length_le (l := enc x) (by rw [hk]; exact Nat.le_refl _), List.nil_append, fl_take hk l n]
theorem fl_at (hk : ∀ x, (enc x).length = k) (d : α) {l : List α} {j : Nat} (hj : j < l.length) : ((fl enc l).drop (j * k)).take k = enc (l.getD j d) := by
 rw [fl_drop hk, List.drop_eq_getElem_cons hj, fl_cons, List.take_append_of_le_length (by rw [hk]; exact Nat.le_refl _), List.take_of_length_le (by rw [hk]; exact Nat.le_refl _)]
 simp [hj]
theorem fl_rd (hk : ∀ x, (enc x).length = k) (d : α) {l : List α} {j : Nat} (hj : j < l.length) : rd (fl enc l) (j * k) (some k) = some (.ag (enc (l.getD j d))) := by
 simp only [rd]
 rw [if_pos, fl_at hk d hj]
 rw [fl_len hk]
 have := Nat.mul_le_mul_right k (show j + 1 ≤ l.length by omega)
 rw [Nat.succ_mul] at this
 exact this
theorem fl_plain (ho : ∀ x, AV.plains (enc x) = true) (l : List α) : AV.plains (fl enc l) = true := by
 induction l with
 | nil => rfl
 | cons x l ih => rw [fl_cons]; exact plains_app (ho x) ih
end
theorem k_loopS {P : Program} {N : Nat} {b : AC} {Q : Exit → St → AH → Prop} {K : St → AH → Prop} {st : St} {h : AH} {X : Type} (ks : List Nat) (len : Nat) (S : Nat → X → St) (Hp : Nat → X → AH → Prop) (x0 : X) (e0 : Am.keep ks st = S 0 x0) (h0 : Hp 0 x0 h)
 (round : ∀ k x h, k ≤ len → Hp k x h → h.ok → 0 < h.nx → W P N b (athen (fun st' h' => k < len ∧ ∃ x', Am.keep ks st' = S (k + 1) x' ∧ Hp (k + 1) x' h') Q) (S k x) h) : W P N (.loop b) (athen K Q) st h :=
 k_loop (fun n st h => ∃ k x, k ≤ len ∧ n = len - k ∧ Am.keep ks st = S k x ∧ Hp k x h) len ⟨0, x0, Nat.zero_le _, rfl, e0, h0⟩ fun n st h hI => by
  obtain ⟨k, x, hk, rfl, e, hp⟩ := hI
  refine k_inv e (w_ok fun ok pos => (round k x h hk hp ok pos).mono fun e st' h' q => ?_)
  cases e
  case normal =>
   obtain ⟨hlt, x', e', hp'⟩ := q
   exact ⟨len - (k + 1), by omega, k + 1, x', by omega, rfl, e', hp'⟩
  all_goals exact q
theorem k_loopW {P : Program} {N : Nat} {b : AC} {Q : Exit → St → AH → Prop} {K : St → AH → Prop} {st : St} {h : AH} {X : Type} (ks : List Nat) (S : X → St) (M : X → Nat) (Hp : X → AH → Prop) (x0 : X) (e0 : Am.keep ks st = S x0) (h0 : Hp x0 h)
 (round : ∀ x h, Hp x h → h.ok → 0 < h.nx → W P N b (athen (fun st' h' => ∃ x', M x' < M x ∧ Am.keep ks st' = S x' ∧ Hp x' h') Q) (S x) h) : W P N (.loop b) (athen K Q) st h :=
 k_loop (fun n st h => ∃ x, n = M x ∧ Am.keep ks st = S x ∧ Hp x h) (M x0) ⟨x0, rfl, e0, h0⟩ fun n st h hI => by
  obtain ⟨x, rfl, e, hp⟩ := hI
  refine k_inv e (w_ok fun ok pos => (round x h hp ok pos).mono fun e st' h' q => ?_)
  cases e
  case normal =>
   obtain ⟨x', hlt, e', hp'⟩ := q
   exact ⟨M x', hlt, x', rfl, e', hp'⟩
  all_goals exact q
theorem VALS : (type_of% @il_len) ∧ (type_of% @bl_len) ∧ (type_of% @il_get) ∧ (type_of% @bl_get) ∧ (type_of% @il_nil) ∧ (type_of% @bl_nil) ∧ (type_of% @il_snoc) ∧ (type_of% @bl_snoc) ∧ (type_of% @il_app) ∧ (type_of% @il_drop) ∧ (type_of% @il_take) ∧ (type_of% @il_set) ∧ (type_of% @bl_set) ∧ (type_of% @il_one) ∧ (type_of% @bl_one) ∧ (type_of% @ul_len) ∧ (type_of% @ul_get) ∧ (type_of% @ul_nil) ∧ (type_of% @ul_snoc) ∧ (type_of% @ul_app) ∧ (type_of% @ul_drop) ∧ (type_of% @ul_take) ∧ (type_of% @ul_set) ∧ (type_of% @ul_one) ∧ (type_of% @ul_abytes) ∧ (type_of% @H1_nx) ∧ (type_of% @H1_m) :=
 ⟨@il_len, @bl_len, @il_get, @bl_get, @il_nil, @bl_nil, @il_snoc, @bl_snoc, @il_app, @il_drop, @il_take, @il_set, @bl_set, @il_one, @bl_one, @ul_len, @ul_get, @ul_nil, @ul_snoc, @ul_app, @ul_drop, @ul_take, @ul_set, @ul_one, @ul_abytes, @H1_nx, @H1_m⟩
section
variable {P : Program} {N : Nat} {Q : Exit → St → AH → Prop} {K : St → AH → Prop} {st : St} {h : AH} {id : Nat}
theorem kzR {l : List AOper} (q : W P N (.reg l) (athen K (ablk id (athen K Q))) st h) : W P N (.blk id (.reg l)) (athen K Q) st h := k_blk q
theorem kzH {m : Nat} {l : List AOper} (q : W P N (.head m l) (athen K (ablk id (athen K Q))) st h) : W P N (.blk id (.head m l)) (athen K Q) st h := k_blk q
theorem kzC {c : AX} {a b : AC} (q : W P N (.cond c a b) (athen K (ablk id (athen K Q))) st h) : W P N (.blk id (.cond c a b)) (athen K Q) st h := k_blk q
theorem kzB {id' : Nat} {a : AC} (q : W P N (.blk id' a) (athen K (ablk id (athen K Q))) st h) : W P N (.blk id (.blk id' a)) (athen K Q) st h := k_blk q
theorem kzK (q : W P N .skip (athen K (ablk id (athen K Q))) st h) : W P N (.blk id .skip) (athen K Q) st h := k_blk q
theorem kzE {id' : Nat} (q : W P N (.exit id') (athen K (ablk id (athen K Q))) st h) : W P N (.blk id (.exit id')) (athen K Q) st h := k_blk q
end
theorem ends_eq {v r : AV} {h : AH} (e : v = r) : Ends v r h := e ▸ ends_of
theorem b_eq {x y : Bool} (h : x = y) : AV.b x = AV.b y := h ▸ rfl
end Go.Am
set_option linter.unusedVariables false
set_option linter.unusedSimpArgs false
namespace Go.Am
def lku {α : Type} [DecidableEq α] (a : α) : List (α × AV) → Option AV
 | [] => none
 | p :: r => if a = p.1 then some p.2 else lku a r
def lset {α : Type} [DecidableEq α] (a : α) (v : AV) : List (α × AV) → List (α × AV)
 | [] => [(a, v)]
 | p :: r => if a = p.1 then (a, v) :: r else p :: lset a v r
section
variable {α : Type} [DecidableEq α]
theorem lset_get (a b : α) (v : AV) : ∀ r : List (α × AV), lku b (lset a v r) = if b = a then some v else lku b r
 | [] => rfl
 | p :: r => by
   simp only [lset]
   by_cases h : a = p.1
   ·rw [if_pos h]
    simp only [lku]
    by_cases e : b = a
    ·rw [if_pos e, if_pos e]
    ·rw [if_neg e, if_neg e, if_neg (by rw [← h]; exact e)]
   ·rw [if_neg h]
    simp only [lku]
    rw [lset_get a b v r]
    by_cases e : b = p.1
    ·rw [if_pos e, if_neg (by rw [e]; exact fun q => h q.symm), if_pos e]
    ·rw [if_neg e, if_neg e]
theorem lset_mem {a x : α} {v : AV} : ∀ {r : List (α × AV)}, x ∈ (lset a v r).map Prod.fst → x = a ∨ x ∈ r.map Prod.fst
 | [], h => by simp [lset] at h; exact .inl h
 | p :: r, h => by
   simp only [lset] at h
   split at h
   ·rw [List.map_cons, List.mem_cons] at h
    exact h.imp id fun q => by rw [List.map_cons]; exact List.mem_cons_of_mem _ q
   ·rw [List.map_cons] at h
    rcases List.mem_cons.1 h with rfl | h'
    ·exact .inr (by simp)
    ·exact (lset_mem h').imp id fun q => by rw [List.map_cons]; exact List.mem_cons_of_mem _ q
theorem lset_nodup {a : α} {v : AV} : ∀ {r : List (α × AV)}, (r.map Prod.fst).Nodup → ((lset a v r).map Prod.fst).Nodup
 | [], _ => by simp [lset]
 | p :: r, h => by
   rw [List.map_cons, List.nodup_cons] at h
   simp only [lset]
   split
   ·rename_i e
    rw [List.map_cons, List.nodup_cons]
    exact ⟨by rw [e]; exact h.1, h.2⟩
   ·rename_i e
    rw [List.map_cons, List.nodup_cons]
    exact ⟨fun q => by
     rcases lset_mem q with q | q
     ·exact e q.symm
     ·exact h.1 q, lset_nodup h.2⟩
def MF (enc : α → AV) (es : List (AV × AV)) (g : α → Option AV) : Prop := ∃ ps : List (α × AV), es = ps.map (fun p => (enc p.1, p.2)) ∧ (ps.map Prod.fst).Nodup ∧ ∀ a, lku a ps = g a
variable {kk : Option (List Nat)} {enc : α → AV}
theorem MF.nil : MF enc [] fun _ => none := ⟨[], rfl, by simp, fun _ => rfl⟩
theorem find_ps (hq : ∀ a b, kq kk (enc a) (enc b) = some (decide (a = b))) (a : α) : ∀ (ps : List (α × AV)) (o : Nat),
 (lku a ps = none → mfind kk (enc a) (ps.map fun p => (enc p.1, p.2)) o = some none) ∧
 (∀ v, lku a ps = some v → ∃ j, mfind kk (enc a) (ps.map fun p => (enc p.1, p.2)) o = some (some (o + j, v)) ∧ ∀ u, (ps.map fun p => (enc p.1, p.2)).set j (enc a, u) = (lset a u ps).map fun p => (enc p.1, p.2))
 | [], o => ⟨fun _ => rfl, fun v h => nomatch h⟩
 | p :: r, o => by
   simp only [lku, List.map_cons, mfind, hq]
   by_cases e : a = p.1
   ·simp only [e, if_true, decide_true, lset]
    exact ⟨fun h => (by cases h), fun v hv => ⟨0, by cases hv; rfl, fun u => by simp⟩⟩
   ·simp only [e, if_false, decide_false, lset]
    obtain ⟨h1, h2⟩ := find_ps hq a r (o + 1)
    refine ⟨h1, fun v hv => ?_⟩
    obtain ⟨j, h3, h4⟩ := h2 v hv
    exact ⟨j + 1, by rw [h3]; simp only [Option.some.injEq, Prod.mk.injEq, and_true]; omega, fun u => by simp [h4 u]⟩
theorem lset_app {a : α} {v : AV} : ∀ {ps : List (α × AV)}, lku a ps = none → lset a v ps = ps ++ [(a, v)]
 | [], _ => rfl
 | p :: r, h => by
   simp only [lku] at h
   split at h
   ·cases h
   ·rename_i e
    simp only [lset, if_neg e, lset_app h, List.cons_append]
theorem mlk_F (hq : ∀ a b, kq kk (enc a) (enc b) = some (decide (a = b))) {es : List (AV × AV)} {g : α → Option AV} (m : MF enc es g) (z : AV) (ok : Bool) (a : α) :
 mlkB kk z ok (enc a) (.map es) = some (if ok then .tu [(g a).getD z, .b (g a).isSome] else (g a).getD z) := by
 obtain ⟨ps, rfl, _, h2⟩ := m
 simp only [mlkB, hq, decide_true, if_true]
 obtain ⟨q1, q2⟩ := find_ps hq a ps 0
 cases hg : g a with
 | none => rw [q1 ((h2 a).trans hg)]; rfl
 | some v => obtain ⟨j, e, _⟩ := q2 v ((h2 a).trans hg); rw [e]; rfl
def mpt (kk : Option (List Nat)) (k v : AV) (es : List (AV × AV)) : List (AV × AV) := (mput kk k v es).getD es
theorem mup_F (hq : ∀ a b, kq kk (enc a) (enc b) = some (decide (a = b))) {es : List (AV × AV)} {g : α → Option AV} (m : MF enc es g) (a : α) (v : AV) :
 mupB kk (enc a) v (.map es) = some (.map (mpt kk (enc a) v es)) ∧ MF enc (mpt kk (enc a) v es) fun b => if b = a then some v else g b := by
 obtain ⟨ps, rfl, hn, h2⟩ := m
 have key : mput kk (enc a) v (ps.map fun p => (enc p.1, p.2)) = some ((lset a v ps).map fun p => (enc p.1, p.2)) := by
  unfold mput
  obtain ⟨q1, q2⟩ := find_ps hq a ps 0
  cases hg : g a with
  | none =>
    rw [q1 ((h2 a).trans hg), lset_app ((h2 a).trans hg)]
    simp
  | some u =>
    obtain ⟨j, e, e3⟩ := q2 u ((h2 a).trans hg)
    rw [e, Nat.zero_add]
    simp only [e3 v]
 refine ⟨?_, lset a v ps, ?_, lset_nodup hn, fun b => by rw [lset_get, h2]⟩
 ·simp only [mupB, hq, decide_true, if_true, key, Option.map_some, mpt, Option.getD_some]
 ·simp only [mpt, key, Option.getD_some]
theorem kq_i (a b : Int) : kq none (.i .i64 a) (.i .i64 b) = some (decide (a = b)) := rfl
end
abbrev MFi (es : List (AV × AV)) (g : Int → Option AV) : Prop := MF (AV.i .i64) es g
theorem MFi.lk {es : List (AV × AV)} {g : Int → Option AV} (m : MFi es g) (z : AV) (ok : Bool) (a : Int) : mlkB none z ok (.i .i64 a) (.map es) = some (if ok then .tu [(g a).getD z, .b (g a).isSome] else (g a).getD z) := mlk_F kq_i m z ok a
theorem MFi.up {es : List (AV × AV)} {g : Int → Option AV} (m : MFi es g) (a : Int) (v : AV) : mupB none (.i .i64 a) v (.map es) = some (.map (mpt none (.i .i64 a) v es)) ∧ MFi (mpt none (.i .i64 a) v es) fun b => if b = a then some v else g b := mup_F kq_i m a v
theorem MFi.eq {es : List (AV × AV)} {g g' : Int → Option AV} (m : MFi es g) (h : ∀ a, g a = g' a) : MFi es g' := (funext h : g = g') ▸ m
def setOf (p : Int → Prop) [DecidablePred p] : Int → Option AV := fun n => if p n then some (.b true) else none
theorem setOf_get (p : Int → Prop) [DecidablePred p] (n : Int) : ((setOf p n).getD (.b false)) = .b (decide (p n)) := by
 unfold setOf; by_cases h : p n <;> simp [h]
theorem MFi.set_lk {es : List (AV × AV)} {p : Int → Prop} [DecidablePred p] (m : MFi es (setOf p)) (a : Int) : mlkB none (.b false) false (.i .i64 a) (.map es) = some (.b (decide (p a))) := by
 rw [MFi.lk m, setOf_get]; rfl
theorem MFi.set_up {es : List (AV × AV)} {p : Int → Prop} [DecidablePred p] (m : MFi es (setOf p)) (a : Int) (q : Int → Prop) [DecidablePred q] (h : ∀ b, q b ↔ (b = a ∨ p b)) : MFi (mpt none (.i .i64 a) (.b true) es) (setOf q) :=
 MFi.eq (MFi.up m a (.b true)).2 fun b => by
  unfold setOf
  have := h b
  by_cases e : b = a
  ·rw [if_pos e, if_pos (this.2 (.inl e))]
  ·rw [if_neg e]
   by_cases hp : p b
   ·rw [if_pos hp, if_pos (this.2 (.inr hp))]
   ·rw [if_neg hp, if_neg fun hq => (this.1 hq).elim e hp]
theorem MFi.set_nil {p : Int → Prop} [DecidablePred p] (h : ∀ a, ¬ p a) : MFi [] (setOf p) := MFi.eq MF.nil fun a => by unfold setOf; rw [if_neg (h a)]
end Go.Am
set_option linter.unusedVariables false
set_option linter.unusedSimpArgs false
namespace Go.Am
open Go.ChangeShapes Go.WideShapes
def φW (W : World) : Nat → Option (Array Value) := fun b => match W.heap[b]? with
 | some (.cells xs _ _) => some xs
 | _ => none
theorem φW_ok (W : World) : ∀ b xs, φW W b = some xs → ∃ e fz, W.heap[b]? = some (.cells xs e fz) := by
 intro b xs h
 unfold φW at h
 split at h
 ·rename_i ys e fz hh; cases h; exact ⟨e, fz, hh⟩
 ·cases h
def ιφ (W : World) : Inj := ⟨fun _ => none, φW W⟩
theorem φW_cell {W : World} {b o : Nat} {s : Option Nat} {x : Value} (h : W.cell? ⟨b, o, s⟩ = some x) : s = none ∧ ∃ xs, φW W b = some xs ∧ xs[o]? = some x := by
 unfold World.cell? at h
 split at h
 ·rename_i vs e fz hh
  split at h
  ·cases h
  ·rename_i hs
   refine ⟨by cases s <;> simp_all, vs, by unfold φW; rw [hh], h⟩
 ·cases h
inductive Kd2 where
 | i (k : IntKind)
 | b
 | s
 | sl (ks : List Kd2)
mutual
def Shp : Kd2 → AV → Prop
 | .i k, a => ∃ n, a = .i k n ∧ (Lit.int k n).wf = true
 | .b, a => ∃ x, a = .b x
 | .s, a => ∃ x, a = .s x ∧ x.size ≤ maxLen
 | .sl ks, a => ∃ rs : List (List AV), a = .vs rs.length rs.flatten ∧ rs.length ≤ maxLen ∧ ∀ r ∈ rs, Shps ks r
def Shps : List Kd2 → List AV → Prop
 | [], az => az = []
 | k :: ks, az => ∃ a r, az = a :: r ∧ Shp k a ∧ Shps ks r
end
theorem Shps_length : ∀ {ks : List Kd2} {az : List AV}, Shps ks az → az.length = ks.length
 | [], az, h => by simp only [Shps] at h; subst h; rfl
 | k :: ks, az, h => by
   simp only [Shps] at h
   obtain ⟨v, r, rfl, _, h⟩ := h
   simp [Shps_length h]
theorem Shps_append : ∀ {ks ls : List Kd2} {az bs : List AV}, Shps ks az → Shps ls bs → Shps (ks ++ ls) (az ++ bs)
 | [], ls, az, bs, h, k => by simp only [Shps] at h; subst h; exact k
 | x :: ks, ls, az, bs, h, k => by
   simp only [Shps] at h
   obtain ⟨v, r, rfl, h1, h2⟩ := h
   simp only [List.cons_append, Shps]
   exact ⟨v, r ++ bs, rfl, h1, Shps_append h2 k⟩
def Sees (W : World) (ks : List Kd2) (cs : List Value) : Prop := ∃ az, Shps ks az ∧ VRels (ιφ W) az cs
theorem Sees.append {W : World} {ks ls : List Kd2} {cs ds : List Value} (h : Sees W ks cs) (k : Sees W ls ds) : Sees W (ks ++ ls) (cs ++ ds) := by
 obtain ⟨az, h1, h2⟩ := h
 obtain ⟨bs, k1, k2⟩ := k
 exact ⟨az ++ bs, Shps_append h1 k1, h2.append k2⟩
theorem Sees.nil {W : World} : Sees W [] [] := ⟨[], rfl, by simp [VRels]⟩
theorem Sees.one {W : World} {k : Kd2} {v : Value} {a : AV} (h : Shp k a) (r : VRel (ιφ W) a v) : Sees W [k] [v] := ⟨[a], by simp only [Shps]; exact ⟨a, [], rfl, h, rfl⟩, by simp only [VRels]; exact ⟨v, [], rfl, r, rfl⟩⟩
def flatF2 (P : Program) (g : TypeId → Option (List Kd2)) : List Field → Nat → Option (List Kd2)
 | [], _ => some []
 | fd :: r, off => match g fd.type with
   | some ks => if fd.offset = off ∧ P.cellsOf fd.type = ks.length then (flatF2 P g r (off + ks.length)).map (ks ++ ·) else none
   | none => none
def flat2 (P : Program) : Nat → TypeId → Option (List Kd2)
 | 0, _ => none
 | f + 1, t => match P.underlying t with
   | some (.int k) => some [.i k]
   | some .bool => some [.b]
   | some .string => some [.s]
   | some (.struct fs) => match flatF2 P (flat2 P f) fs.toList 0 with
     | some ks => if P.cellsOf t = ks.length then some ks else none
     | none => none
   | some (.array n e) => match flat2 P f e with
     | some ks => if P.cellsOf e = ks.length ∧ P.cellsOf t = n * ks.length then some (List.replicate n ks).flatten else none
     | none => none
   | some (.slice e) => match flat2 P f e with
     | some ks => if P.cellsOf e = ks.length ∧ 0 < ks.length then some [.sl ks] else none
     | none => none
   | _ => none
theorem flatF2_ok {W : World} {P : Program} {g : TypeId → Option (List Kd2)} {cs : List Value} : ∀ {l : List Field} {off : Nat} {ks : List Kd2}, flatF2 P g l off = some ks →
 (∀ fd ∈ l, ∀ ks, g fd.type = some ks → Sees W ks ((cs.drop fd.offset).take (P.cellsOf fd.type))) → Sees W ks ((cs.drop off).take ks.length)
 | [], off, ks, h, _ => by simp only [flatF2, Option.some.injEq] at h; subst h; simp only [List.length_nil, List.take_zero]; exact Sees.nil
 | fd :: r, off, ks, h, H => by
   simp only [flatF2] at h
   split at h
   ·rename_i k1 hg
    split at h
    ·rename_i hc
     simp only [Option.map_eq_some_iff] at h
     obtain ⟨k2, h2, rfl⟩ := h
     have a1 := H fd (by simp) k1 hg
     rw [hc.1, hc.2] at a1
     have a2 := flatF2_ok h2 fun f hf => H f (by simp [hf])
     have : (cs.drop off).take (k1 ++ k2).length = (cs.drop off).take k1.length ++ (cs.drop (off + k1.length)).take k2.length := by
      rw [List.length_append, ← List.drop_drop, List.take_add]
     rw [this]
     exact a1.append a2
    ·cases h
   ·cases h
theorem sees_rep {W : World} {ks : List Kd2} : ∀ {n : Nat} {cs : List Value}, cs.length = n * ks.length → (∀ i, i < n → Sees W ks ((cs.drop (i * ks.length)).take ks.length)) → Sees W (List.replicate n ks).flatten cs
 | 0, cs, h, _ => by simp at h; subst h; exact Sees.nil
 | n + 1, cs, h, H => by
   rw [List.replicate_succ, List.flatten_cons]
   have h0 := H 0 (by omega)
   simp only [Nat.zero_mul, List.drop_zero] at h0
   have h1 := sees_rep (W := W) (ks := ks) (n := n) (cs := cs.drop ks.length) (by rw [List.length_drop, h, Nat.succ_mul]; omega) fun i hi => by
    have := H (i + 1) (by omega)
    rw [List.drop_drop]
    rwa [show ks.length + i * ks.length = (i + 1) * ks.length by rw [Nat.succ_mul]; omega]
   have := h0.append h1
   rwa [List.take_append_drop] at this
theorem vrels_nil {ι : Inj} : VRels ι [] [] := by simp only [VRels]
theorem vrels_cons {ι : Inj} {a : AV} {v : Value} {az : List AV} {vs : List Value} (r : VRel ι a v) (h : VRels ι az vs) : VRels ι (a :: az) (v :: vs) := by simp only [VRels]; exact ⟨v, vs, rfl, r, h⟩
theorem rows_rel {ι : Inj} {ks : List Kd2} {k : Nat} (hk : ks.length = k) (L : List Value) : ∀ (n : Nat), (∀ i, i < n → ∃ az, Shps ks az ∧ VRels ι az ((L.drop (i * k)).take k)) → ∃ rs : List (List AV), rs.length = n ∧ (∀ r ∈ rs, Shps ks r) ∧ VRels ι rs.flatten (L.take (n * k)) ∧ rs.flatten.length = n * k
 | 0, _ => ⟨[], rfl, fun r h => (by cases h), by simp [VRels], by simp⟩
 | n + 1, H => by
   obtain ⟨rs, h1, h2, h3, h4⟩ := rows_rel hk L n fun i hi => H i (by omega)
   obtain ⟨az, h5, h6⟩ := H n (by omega)
   have hl := Shps_length h5
   refine ⟨rs ++ [az], by simp [h1], fun r hr => ?_, ?_, ?_⟩
   ·rcases List.mem_append.1 hr with h | h
    ·exact h2 r h
    ·simp at h; subst h; exact h5
   ·rw [List.flatten_append, Nat.succ_mul, List.take_add]
    simpa using h3.append h6
   ·simp only [List.flatten_append, List.length_append, h4, List.flatten_cons, List.flatten_nil, List.append_nil, hl, hk, Nat.succ_mul]
theorem choose_fn {α : Type} [Inhabited α] {n : Nat} {p : Nat → α → Prop} (h : ∀ i, i < n → ∃ x, p i x) : ∃ g : Nat → α, ∀ i, i < n → p i (g i) :=
 ⟨fun i => if hi : i < n then Classical.choose (h i hi) else default, fun i hi => by simp only [hi, dif_pos]; exact Classical.choose_spec (h i hi)⟩
section
variable {H : Type} {enc : TypeId × Value → H} {P : Program} {w : World} {held : Bool}
theorem trod_array {fuel : Nat} {t : TypeId} {cs : List Value} {x : DataW H × List MemPlace} {n : Nat} {e : TypeId} (ht : P.underlying t = some (.array n e)) (h : DataW.trod enc P w 0 (fun _ => true) held fuel t cs = some x) :
 ∃ (fu : Nat) (xs : List (DataW H × List MemPlace)), fuel = fu + 1 ∧ cs.length = P.cellsOf t ∧ xs.length = n ∧ ∀ i, i < n → DataW.trod enc P w 0 (fun _ => true) held fu e ((cs.drop (i * P.cellsOf e)).take (P.cellsOf e)) = xs[i]? := by
 cases fuel with
 | zero => simp [DataW.trod] at h
 | succ m =>
   unfold DataW.trod at h
   rw [ht] at h
   split at h <;> simp_all
   obtain ⟨hl, xs, hp, hd⟩ := h
   exact ⟨xs, by simpa using mapM_some_length hp, fun i hi => mapM_some_get hp i i (by simp [hi])⟩
theorem flat2_ok : ∀ {f : Nat} {t : TypeId} {ks : List Kd2}, flat2 P f t = some ks → ∀ {fuel : Nat} {cs : List Value} {x : DataW H × List MemPlace}, DataW.trod enc P w 0 (fun _ => true) held fuel t cs = some x → Sees w ks cs
 | 0, t, ks, h, _, _, _, _ => by simp [flat2] at h
 | f + 1, t, ks, h, fuel, cs, x, hx => by
   simp only [flat2] at h
   split at h
   ·rename_i k hu
    cases h
    obtain ⟨n, rfl, _, hw⟩ := DataW.trod_int hu hx
    exact Sees.one (a := .i _ n) (by simp only [Shp]; exact ⟨n, rfl, hw⟩) (by simp only [VRel])
   ·rename_i hu
    cases h
    obtain ⟨b, rfl, _⟩ := DataW.trod_bool hu hx
    exact Sees.one (a := .b b) (by simp only [Shp]; exact ⟨b, rfl⟩) (by simp only [VRel])
   ·rename_i hu
    cases h
    obtain ⟨s, rfl, _, hs⟩ := DataW.trod_string hu hx
    exact Sees.one (a := .s s) (by simp only [Shp]; exact ⟨s, rfl, hs⟩) (by simp only [VRel])
   ·rename_i fs hu
    split at h
    ·rename_i k1 hk
     split at h
     ·rename_i hl
      cases h
      obtain ⟨xs, n, _, _, hlen, hxs, hf⟩ := DataW.trod_struct hu hx
      have := flatF2_ok (W := w) (cs := cs) hk fun fd hfd ks hg => by
       obtain ⟨i, hi, e⟩ := List.mem_iff_getElem.1 hfd
       have hfi : fs[i]? = some fd := by
        rw [Array.getElem?_eq_getElem (by simpa using hi)]
        simpa using e
       have h1 := hf i fd hfi
       rw [List.getElem?_eq_getElem (by rw [hxs]; simpa using hi)] at h1
       exact flat2_ok hg h1
      rw [List.drop_zero, ← hl, ← hlen, List.take_length] at this
      exact this
     ·cases h
    ·cases h
   ·rename_i n e hu
    split at h
    ·rename_i k1 hk
     split at h
     ·rename_i hl
      cases h
      obtain ⟨fu, xs, _, hlen, hxl, hxs⟩ := trod_array hu hx
      refine sees_rep (by rw [hlen]; exact hl.2) fun i hi => ?_
      have := hxs i hi
      rw [hl.1, List.getElem?_eq_getElem (by omega)] at this
      exact flat2_ok hk this
     ·cases h
    ·cases h
   ·rename_i e hu
    split at h
    ·rename_i k1 hk
     split at h
     ·rename_i hl
      cases h
      rcases Go.Deep.open_slice hu hx with ⟨rfl, _⟩ | ⟨a, len, cap, m, n, D, Pl, rfl, hb, hle, hcap, hm, _, hel⟩
      ·exact Sees.one (a := .vs 0 []) (by simp only [Shp]; exact ⟨[], rfl, by simp, fun r h => (by cases h)⟩) (by simp only [VRel]; exact .inl ⟨by trivial, _, rfl⟩)
      ·simp only [if_true] at hm
       subst hm
       by_cases h0 : m = 0
       ·subst h0
        obtain rfl : len = 0 := by omega
        exact Sees.one (a := .vs 0 []) (by simp only [Shp]; exact ⟨[], rfl, by simp, fun r h => (by cases h)⟩) (by simp only [VRel]; exact .inl ⟨by trivial, _, rfl⟩)
       ·obtain ⟨g, hg⟩ := choose_fn (α := List Value) hel
        obtain ⟨hl1, hl2⟩ := hl
        have slen : ∀ i, i < m → (g i).length = k1.length := fun i hi => by
         obtain ⟨az, h1, h2⟩ := flat2_ok hk (hg i hi).2
         rw [← h2.length, Shps_length h1]
        have key : ∀ i, i < m → ∀ j x, (g i)[j]? = some x → w.cell? ((a.add (i * P.cellsOf e)).add j) = some x := fun i hi j x hj => by
         have h1 := (hg i hi).1
         unfold World.cells? at h1
         split at h1
         ·have hlen := mapM_some_length h1
          have hj' : j < (g i).length := (List.getElem?_eq_some_iff.1 hj).1
          have := mapM_some_get h1 j j (List.getElem?_eq_some_iff.2 ⟨by omega, by simp⟩)
          rw [this, hj]
         ·cases h1
        have len0 : (g 0).length = k1.length := slen 0 (by omega)
        obtain ⟨x0, hx0⟩ : ∃ x0, (g 0)[0]? = some x0 := ⟨(g 0)[0]'(by omega), List.getElem?_eq_getElem _⟩
        have k0 := key 0 (by omega) 0 x0 hx0
        rw [Nat.zero_mul, show (a.add 0).add 0 = a from rfl] at k0
        obtain ⟨b, o, sp⟩ := a
        obtain ⟨rfl, xs, hxs, _⟩ := φW_cell k0
        have row : ∀ i, i < len → ((xs.toList.drop o).drop (i * k1.length)).take k1.length = g i := fun i hi => by
         refine List.ext_getElem? fun j => ?_
         rw [List.getElem?_take]
         split
         ·rename_i hj
          obtain ⟨y, hy⟩ : ∃ y, (g i)[j]? = some y := ⟨(g i)[j]'(by rw [slen i (by omega)]; exact hj), List.getElem?_eq_getElem _⟩
          have := key i (by omega) j y hy
          rw [Addr.add_eq, Addr.add_eq, hl1] at this
          obtain ⟨_, ys, q1, q2⟩ := φW_cell this
          rw [hxs] at q1; cases q1
          rw [hy, List.getElem?_drop, List.getElem?_drop, Array.getElem?_toList, ← q2]
          congr 1; omega
         ·rename_i hj
          rw [List.getElem?_eq_none]
          rw [slen i (by omega)]; omega
        obtain ⟨rs, r1, r2, r3, r4⟩ := rows_rel (ι := ιφ w) (ks := k1) rfl (xs.toList.drop o) len fun i hi => by rw [row i hi]; exact flat2_ok hk (hg i (by omega)).2
        refine Sees.one (a := .vs len rs.flatten) (by simp only [Shp]; exact ⟨rs, by rw [r1], by omega, r2⟩) ?_
        simp only [VRel]
        exact .inr ⟨b, o, m, xs, rfl, hle, hxs, by rw [r4]; exact r3⟩
     ·cases h
    ·cases h
   ·cases h
theorem open2 {base : Nat} {r : Reach} {t : TypeId} {v : Value} {d : DataW H} {p : List MemPlace} {f : Nat} {ks : List Kd2} (hk : flat2 P f t = some ks) (h : DataW.Trod enc P w 0 (fun _ => true) held t v d p) : Sees w ks v.cells.toList := by
 obtain ⟨fuel, hf⟩ := h
 exact flat2_ok hk hf
theorem arg1 {t : TypeId} {v : Value} {d : DataW H} {p : List MemPlace} {f : Nat} {k : Kd2} (hk : flat2 P f t = some [k]) (h : DataW.Trod enc P w 0 (fun _ => true) held t v d p) (hv : v.cells = #[v]) : ∃ a, Shp k a ∧ VRel (ιφ w) a v := by
 obtain ⟨az, h1, h2⟩ := open2 (base := 0) (r := .any) hk h
 rw [hv] at h2
 simp only [Shps] at h1
 obtain ⟨a, r, rfl, h3, rfl⟩ := h1
 simp only [VRels] at h2
 obtain ⟨v', r', e, h4, rfl⟩ := h2
 cases e
 exact ⟨a, h3, h4⟩
theorem argN {t : TypeId} {cs : Array Value} {d : DataW H} {p : List MemPlace} {f : Nat} {ks : List Kd2} (hk : flat2 P f t = some ks) (h : DataW.Trod enc P w 0 (fun _ => true) held t (.agg cs) d p) : ∃ az, Shps ks az ∧ VRel (ιφ w) (.ag az) (.agg cs) := by
 obtain ⟨az, h1, h2⟩ := open2 (base := 0) (r := .any) hk h
 exact ⟨az, h1, by simp only [VRel]; exact ⟨cs, rfl, h2⟩⟩
theorem okWide_array {r : Reach} {base n : Nat} {t e : TypeId} {v : Value} (ht : P.underlying t = some (.array n e)) (h : Value.okWide P w r base t v) : ∃ cs, v = .agg cs ∧ cs.size = P.cellsOf t := by
 simp only [Value.okWide, ht] at h
 obtain ⟨cs, h1, h2, _⟩ := h
 exact ⟨cs, h1, h2⟩
end
theorem sl_dec {α : Type} (enc : α → List AV) (p : α → Prop) {ks : List Kd2} (dec : ∀ r, Shps ks r → ∃ x, r = enc x ∧ p x) {a : AV} (h : Shp (.sl ks) a) : ∃ l : List α, a = .vs l.length (l.map enc).flatten ∧ l.length ≤ 9223372036854775807 ∧ ∀ x ∈ l, p x := by
 simp only [Shp] at h
 obtain ⟨rs, rfl, h1, h2⟩ := h
 have : ∀ rs : List (List AV), (∀ r ∈ rs, Shps ks r) → ∃ l : List α, rs = l.map enc ∧ ∀ x ∈ l, p x := by
  intro rs
  induction rs with
  | nil => intro _; exact ⟨[], rfl, fun x h => (by cases h)⟩
  | cons r rs ih =>
    intro h
    obtain ⟨x, rfl, hx⟩ := dec r (h r (by simp))
    obtain ⟨l, rfl, hl⟩ := ih fun r hr => h r (by simp [hr])
    exact ⟨x :: l, rfl, fun y hy => by rcases List.mem_cons.1 hy with rfl | hy; exact hx; exact hl y hy⟩
 obtain ⟨l, rfl, hl⟩ := this rs h2
 rw [List.length_map] at h1
 exact ⟨l, by simp, h1, hl⟩
theorem wf_i64 {n : Int} (h : (Lit.int .i64 n).wf = true) : -9223372036854775808 ≤ n ∧ n ≤ 9223372036854775807 := by
 simp only [Lit.wf, Bool.and_eq_true, decide_eq_true_eq] at h
 exact h
def i64 (n : Int) : Prop := -9223372036854775808 ≤ n ∧ n ≤ 9223372036854775807
theorem shp_i64 {a : AV} (h : Shp (.i .i64) a) : ∃ n : Int, a = .i .i64 n ∧ i64 n := by
 simp only [Shp] at h
 obtain ⟨n, rfl, hw⟩ := h
 exact ⟨n, rfl, wf_i64 hw⟩
theorem shps_nil {az : List AV} (h : Shps [] az) : az = [] := by simpa only [Shps] using h
theorem shps_cons {k : Kd2} {ks : List Kd2} {az : List AV} (h : Shps (k :: ks) az) : ∃ a r, az = a :: r ∧ Shp k a ∧ Shps ks r := by simpa only [Shps] using h
end Go.Am
set_option linter.unusedVariables false
set_option linter.unusedSimpArgs false
namespace Go.Am
mutual
def AV.scal : AV → Bool
 | .p .. | .sl .. | .mp .. | .vs .. | .pv .. | .fn .. | .fy .. => false
 | .ag cs => AV.scals cs
 | .tu cs => AV.scals cs
 | .gd _ v => v.scal
 | _ => true
def AV.scals : List AV → Bool
 | [] => true
 | v :: r => v.scal && AV.scals r
end
mutual
theorem scal_rel {ι ι' : Inj} : ∀ {a : AV} {v : Value}, a.scal = true → VRel ι a v → VRel ι' a v
 | .un, _, _, _ => by simp [VRel]
 | .b x, v, _, r => by simpa [VRel] using r
 | .i k n, v, _, r => by simpa [VRel] using r
 | .s x, v, _, r => by simpa [VRel] using r
 | .p t o, v, q, r => by simp [AV.scal] at q
 | .nilp, v, _, r => by simpa [VRel] using r
 | .sl t o n a, v, q, r => by simp [AV.scal] at q
 | .fn f fst caps, v, q, r => by simp [AV.scal] at q
 | .nilf, v, _, r => by simpa [VRel] using r
 | .mp t, v, q, r => by simp [AV.scal] at q
 | .fy t, v, q, r => by simp [AV.scal] at q
 | .nilm, v, _, r => by simpa [VRel] using r
 | .vs n cs, v, q, r => by simp [AV.scal] at q
 | .pv cs o, v, q, r => by simp [AV.scal] at q
 | .ag cs, v, q, r => by
   simp only [AV.scal] at q
   simp only [VRel] at *; obtain ⟨x, h1, h2⟩ := r; exact ⟨x, h1, scals_rel q h2⟩
 | .tu cs, v, q, r => by
   simp only [AV.scal] at q
   simp only [VRel] at *; obtain ⟨x, h1, h2⟩ := r; exact ⟨x, h1, scals_rel q h2⟩
 | .gd g a, v, q, r => by
   simp only [AV.scal] at q
   simp only [VRel] at *; exact ⟨fun hg => scal_rel q (r.1 hg), r.2⟩
theorem scals_rel {ι ι' : Inj} : ∀ {az : List AV} {vs : List Value}, AV.scals az = true → VRels ι az vs → VRels ι' az vs
 | [], _, _, r => by simpa [VRels] using r
 | a :: az, vs, q, r => by
   simp only [AV.scals, Bool.and_eq_true] at q
   simp only [VRels] at *; obtain ⟨v, t, h1, h2, h3⟩ := r; exact ⟨v, t, h1, scal_rel q.1 h2, scals_rel q.2 h3⟩
end
mutual
inductive Now (h : AH) : AV → AV → Prop
 | same {v : AV} (hp : v.plain = true) : Now h v v
 | nil {o a : Nat} : Now h (.sl 0 o 0 a) (.vs 0 [])
 | sl {t o n a : Nat} {cs ds es : List AV} (hr : h.row t = some cs) (hd : (cs.drop o).take ds.length = ds) (hv : Nows h ds es) : Now h (.sl t o n a) (.vs n es)
 | p {t o : Nat} {cs es : List AV} (hr : h.row t = some cs) (hv : Nows h cs es) : Now h (.p t o) (.pv es o)
 | ag {vs ws : List AV} (hv : Nows h vs ws) : Now h (.ag vs) (.ag ws)
 | fn {f : Nat} {az bs as' bs' : List AV} (h1 : Nows h az as') (h2 : Nows h bs bs') : Now h (.fn f az bs) (.fn f as' bs')
inductive Nows (h : AH) : List AV → List AV → Prop
 | nil : Nows h [] []
 | cons {v w : AV} {vs ws : List AV} (hv : Now h v w) (hs : Nows h vs ws) : Nows h (v :: vs) (w :: ws)
end
theorem Nows.same {h : AH} : ∀ {vs : List AV}, AV.plains vs = true → Nows h vs vs
 | [], _ => .nil
 | v :: vs, q => by
   simp only [AV.plains, Bool.and_eq_true] at q
   exact .cons (.same q.1) (Nows.same q.2)
theorem Nows.length {h : AH} : ∀ {vs ws : List AV}, Nows h vs ws → vs.length = ws.length
 | _, _, .nil => rfl
 | _, _, .cons _ hs => by simp [Nows.length hs]
theorem Now.row {h : AH} {t n a : Nat} {cs : List AV} (hr : h.row t = some cs) (hp : AV.plains cs = true) : Now h (.sl t 0 n a) (.vs n cs) :=
 .sl (ds := cs) hr (by rw [List.drop_zero, List.take_length]) (Nows.same hp)
theorem row_at {ι : Inj} {h : AH} {w : World} (wr : WRel ι h w) {t : Nat} {cs : List AV} (hr : h.row t = some cs) {l : Loc} (hl : ι t = some l) : ∃ xs, φW w l.b = some xs ∧ Lies ι cs xs l.sh := by
 have key : ∀ {vs : Array Value} {e : TypeId} {fz : Nat × Nat}, w.heap[l.b]? = some (.cells vs e fz) → l.sh + cs.length ≤ vs.size → (∀ (i : Nat) (a : AV), cs[i]? = some a → ∃ v : Value, vs[l.sh + i]? = some v ∧ VRel ι a v) → ∃ xs, φW w l.b = some xs ∧ Lies ι cs xs l.sh := by
  intro vs e fz h1 h2 h3
  refine ⟨vs, by unfold φW; rw [h1], VRels_iff.2 ⟨by simp; omega, fun i a v ha hv => ?_⟩⟩
  obtain ⟨u, hu, hr⟩ := h3 i a ha
  rw [List.getElem?_take] at hv
  split at hv
  ·rw [List.getElem?_drop, Array.getElem?_toList, hu] at hv
   cases hv; exact hr
  ·cases hv
 unfold AH.row at hr
 split at hr
 ·rename_i wr' cs' hm
  cases hr
  have hb := (wr.blk t _ hm).2
  simp only [BRel] at hb
  rcases hb with ⟨_, h2⟩ | ⟨l1, vs, e, fz, h1, h2, h3, h4, h5, h6⟩
  ·rw [hl] at h2; cases h2
  ·rw [hl] at h1; cases h1
   exact key h2 (by omega) h6
 ·rename_i cs' hm
  cases hr
  have hb := (wr.blk t _ hm).2
  simp only [BRel] at hb
  obtain ⟨l1, vs, e, h1, h2, h3, h4, h6⟩ := hb
  rw [hl] at h1; cases h1
  exact key h2 (by omega) h6
 ·cases hr
mutual
theorem Now.rel {ι : Inj} {h : AH} {w : World} (wr : WRel ι h w) : ∀ {v v' : AV} {u : Value}, Now h v v' → VRel ι v u → VRel (ιφ w) v' u
 | _, _, u, .same hp, r => plain_rel (fun b xs hb => by
  obtain ⟨⟨e, fz, hh⟩, _⟩ := wr.phi b xs hb
  show φW w b = some xs
  unfold φW; rw [hh]) hp r
 | _, _, u, @Now.nil _ o a, r => by
   simp only [VRel] at r ⊢
   rcases r with ⟨h0, x, rfl⟩ | ⟨l, cap, hl, _⟩
   ·exact .inl ⟨by trivial, x, rfl⟩
   ·rw [wr.nil] at hl; cases hl
 | _, _, u, @Now.sl _ t o n a cs ds es hr hd hv, r => by
   simp only [VRel] at r ⊢
   rcases r with ⟨h0, x, rfl⟩ | ⟨l, cap, hl, rfl, hc, _⟩
   ·exact .inl ⟨h0, x, rfl⟩
   ·obtain ⟨xs, hx, hL⟩ := row_at wr hr hl
    refine .inr ⟨l.b, l.sh + o, cap, xs, rfl, hc, hx, ?_⟩
    rw [← Nows.length hv]
    have := Lies.take (Lies.drop hL o) ds.length
    rw [hd] at this
    exact Nows.rel wr hv this
 | _, _, u, @Now.p _ t o cs es hr hv, r => by
   simp only [VRel] at r ⊢
   obtain ⟨l, hl, rfl⟩ := r
   obtain ⟨xs, hx, hL⟩ := row_at wr hr hl
   refine ⟨l.b, l.sh, xs, rfl, hx, ?_⟩
   rw [← Nows.length hv]
   exact Nows.rel wr hv hL
 | _, _, u, .ag hv, r => by simp only [VRel] at r ⊢; obtain ⟨x, hx, r⟩ := r; exact ⟨x, hx, Nows.rel wr hv r⟩
 | _, _, u, .fn h1 h2, r => by simp only [VRel] at r ⊢; obtain ⟨x, y, hx, r1, r2⟩ := r; exact ⟨x, y, hx, Nows.rel wr h1 r1, Nows.rel wr h2 r2⟩
theorem Nows.rel {ι : Inj} {h : AH} {w : World} (wr : WRel ι h w) : ∀ {vs ws : List AV} {us : List Value}, Nows h vs ws → VRels ι vs us → VRels (ιφ w) ws us
 | _, _, us, .nil, r => by simpa only [VRels] using r
 | _, _, us, .cons hv hs, r => by
   simp only [VRels] at r ⊢
   obtain ⟨u, us, rfl, r1, r2⟩ := r
   exact ⟨u, us, rfl, Now.rel wr hv r1, Nows.rel wr hs r2⟩
end
theorem tab_φW {ι : Inj} {h : AH} {w : World} (wr : WRel ι h w) : TabOK (φW w) := fun b xs x => by
 obtain ⟨⟨e, fz, hh⟩, _⟩ := wr.phi b xs (wr.nil0.2 b xs x)
 unfold φW; rw [hh]
theorem PC.at {P : Program} {f : Nat} {args args' : List AV} {v : AV} (c : PC P f args v) (hv : v.scal = true) {h : AH} (F : Nows h args' args) : ACalls P f args' h fun r h' => r = v ∧ h' = h := by
 refine ⟨(c H1).ex, fun ι w vs wr hvs => ?_⟩
 refine Calls.mono ((c H1).run (ιφ w) w vs (WRel.h1 (φW_ok w) (tab_φW wr)) (Nows.rel wr F hvs)) fun e w' he => ?_
 obtain ⟨u, r, h', ι', rfl, ⟨rfl, rfl⟩, h1, h2, h3⟩ := he
 have hk : ∀ b, b < w.heap.size → w'.heap[b]? = w.heap[b]? := fun b hb => h3.keep b hb fun t c l hm => by cases hm
 refine ⟨u, _, h, ι, rfl, ⟨rfl, rfl⟩, scal_rel hv h1, ⟨fun t l ht => ⟨(wr.lt t l ht).1, Nat.lt_of_lt_of_le (wr.lt t l ht).2 h3.size⟩, fun t c hc => ⟨(wr.blk t c hc).1, (wr.blk t c hc).2.mono (Inj.le_refl _) rfl fun l hl => hk l.b (wr.lt t l hl).2⟩, wr.inj, wr.pos, wr.nil0, fun b xs hb => ?_⟩,
  ⟨Nat.le_refl _, fun _ _ => rfl, h3.os, h3.tape, h3.output, h3.size, fun b hb _ => hk b hb, fun t c l hm hc hl => .inr ⟨t, c, l, hm, hc, hl, rfl⟩, fun _ _ x => x, fun _ _ x => .inl x, h3.drawn⟩⟩
 obtain ⟨⟨e, fz, hh⟩, h4⟩ := wr.phi b xs hb
 have hlt : b < w.heap.size := (Array.getElem?_eq_some_iff.1 hh).1
 exact ⟨⟨e, fz, (hk b hlt).trans hh⟩, h4⟩
end Go.Am
set_option linter.unusedVariables false
set_option linter.unusedSimpArgs false
namespace Go.Am
open Go.Proofs Go.Shelf Go.Sort
theorem WRel.grown {ι : Inj} {h : AH} {w w' : World} (r : WRel ι h w) (hs : w.heap.size ≤ w'.heap.size) (hk : ∀ b, b < w.heap.size → w'.heap[b]? = w.heap[b]?) : WRel ι h w' where
 lt t l ht := ⟨(r.lt t l ht).1, Nat.lt_of_lt_of_le (r.lt t l ht).2 hs⟩
 blk t c hc := ⟨(r.blk t c hc).1, (r.blk t c hc).2.mono (Inj.le_refl _) rfl fun l hl => hk l.b (r.lt t l hl).2⟩
 inj := r.inj
 pos := r.pos
 nil0 := r.nil0
 phi b xs hb := by
  obtain ⟨⟨e, fz, hh⟩, h2⟩ := r.phi b xs hb
  have hlt : b < w.heap.size := (Array.getElem?_eq_some_iff.1 hh).1
  exact ⟨⟨e, fz, (hk b hlt).trans hh⟩, h2⟩
theorem Ext.grown {ι0 ι : Inj} {h0 h : AH} {w0 w w' : World} (x : Ext ι0 h0 w0 ι h w) (ho : w'.os = w.os) (ht : w'.tape = w.tape) (hu : w'.output = w.output) (hs : w.heap.size ≤ w'.heap.size) (hk : ∀ b, b < w.heap.size → w'.heap[b]? = w.heap[b]?) (hd : w.drawn ≤ w'.drawn) : Ext ι0 h0 w0 ι h w' :=
 ⟨x.nx, x.old, ho.trans x.os, ht.trans x.tape, hu.trans x.output, Nat.le_trans x.size hs, fun b hb hkk => (hk b (Nat.lt_of_lt_of_le hb x.size)).trans (x.keep b hb hkk), x.img, x.phi, x.new, Nat.le_trans x.drawn hd⟩
section
variable {P : Program} {ρ : Ren} {α : Type} [Inhabited α]
structure Enc1 (E : α → AV) (enc : α → Value) : Prop where
 rel : ∀ (ι : Inj) x v, VRel ι (E x) v ↔ v = enc x
 one : ∀ x, (E x).one = true
 plain : ∀ x, (E x).plain = true
theorem putRow_heap (enc : α → Value) (w : World) (blk off m : Nat) (d : Array α) (os : Array Obj) {vs : Array Value} {e : TypeId} {fz : Nat × Nat} (hh : w.heap[blk]? = some (.cells vs e fz)) :
 (sortWorld enc w blk off m d os).heap[blk]? = some (.cells (putCells enc off d vs) e fz) ∧ (∀ b, b < w.heap.size → b ≠ blk → (sortWorld enc w blk off m d os).heap[b]? = w.heap[b]?) ∧ w.heap.size ≤ (sortWorld enc w blk off m d os).heap.size := by
 have hlt : blk < w.heap.size := (Array.getElem?_eq_some_iff.1 hh).1
 have hw : (sortWorld enc w blk off m d os).heap = w.heap.modify blk (onCells (putCells enc off d)) ++ os := rfl
 refine ⟨?_, fun b hb hne => ?_, ?_⟩
 ·rw [hw, Array.getElem?_append_left (by simpa using hlt), Array.getElem?_modify, if_pos rfl, hh]; rfl
 ·rw [hw, Array.getElem?_append_left (by simpa using hb), Array.getElem?_modify, if_neg (Ne.symm hne)]
 ·rw [hw, Array.size_append, Array.size_modify]; omega
theorem set_self {h : AH} {t : Nat} {b : Blk} (hm : h.m t = some b) : h.set t b = h := by
 unfold AH.set
 have : (fun s => if s = t then some b else h.m s) = h.m := by
  funext s
  by_cases e : s = t
  ·subst e; simp [hm]
  ·simp [e]
 rw [this]
end
end Go.Am
