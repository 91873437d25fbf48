/- The abstract machine: lists as values; loops with a reckoned state; the end of a call. -/
import Derived.Test.YtbhkbaapfioijaaAmX
set_option linter.unusedVariables false
set_option linter.unusedSimpArgs false
namespace Go.Am

/-! ### Lists -/
def il (l : List Int) : List AV := l.map (AV.i .i64)
def bl (l : List Bool) : List AV := l.map AV.b
/-- rows, one behind the other -/
def fl {α : Type} (enc : α → List AV) (l : List α) : List AV := (l.map enc).flatten
abbrev vi (l : List Int) : AV := .vs l.length (il l)
theorem il_len (l : List Int) : (il l).length = l.length := by simp [il]
theorem bl_len (l : List Bool) : (bl l).length = l.length := by simp [bl]
theorem il_get {l : List Int} {j : Nat} (h : j < l.length) : (il l)[j]? = some (.i .i64 (l.getD j 0)) := by simp [il, h]
theorem bl_get {l : List Bool} {j : Nat} (h : j < l.length) : (bl l)[j]? = some (.b (l.getD j false)) := by simp [bl, h]
theorem il_nil : il [] = [] := rfl
theorem bl_nil : bl [] = [] := rfl
theorem il_snoc (l : List Int) (x : Int) : il l ++ [.i .i64 x] = il (l ++ [x]) := by simp [il]
theorem bl_snoc (l : List Bool) (x : Bool) : bl l ++ [.b x] = bl (l ++ [x]) := by simp [bl]
theorem il_app (l m : List Int) : il l ++ il m = il (l ++ m) := by simp [il]
theorem il_drop (l : List Int) (n : Nat) : (il l).drop n = il (l.drop n) := by simp [il]
theorem il_take (l : List Int) (n : Nat) : (il l).take n = il (l.take n) := by simp [il]
theorem il_set (l : List Int) (j : Nat) (x : Int) : (il l).set j (.i .i64 x) = il (l.set j x) := by simp [il]
theorem bl_set (l : List Bool) (j : Nat) (x : Bool) : (bl l).set j (.b x) = bl (l.set j x) := by simp [bl]
theorem il_one (l : List Int) : (il l).all AV.one = true := by simp [il, AV.one]
theorem bl_one (l : List Bool) : (bl l).all AV.one = true := by simp [bl, AV.one]
theorem plains_all : ∀ {l : List AV}, (∀ x ∈ l, x.plain = true) → AV.plains l = true
  | [], _ => rfl
  | y :: ys, h => by simp only [AV.plains, Bool.and_eq_true]; exact ⟨h y (by simp), plains_all fun x hx => h x (by simp [hx])⟩
theorem plains_app : ∀ {l m : List AV}, AV.plains l = true → AV.plains m = true → AV.plains (l ++ m) = true
  | [], m, _, h => h
  | y :: ys, m, h, k => by
    simp only [AV.plains, Bool.and_eq_true] at h
    simp only [List.cons_append, AV.plains, Bool.and_eq_true]
    exact ⟨h.1, plains_app h.2 k⟩
theorem il_plain (l : List Int) : AV.plains (il l) = true := plains_all fun x hx => by
  simp only [il, List.mem_map] at hx
  obtain ⟨y, _, rfl⟩ := hx; rfl
theorem bl_plain (l : List Bool) : AV.plains (bl l) = true := plains_all fun x hx => by
  simp only [bl, List.mem_map] at hx
  obtain ⟨y, _, rfl⟩ := hx; rfl
theorem il_rep (n : Nat) : (List.replicate n [AV.i .i64 0]).flatten = il (List.replicate n 0) := by
  induction n with
  | zero => rfl
  | succ n ih => rw [List.replicate_succ, List.flatten_cons, ih]; simp [il, List.replicate_succ]
theorem bl_rep (n : Nat) : (List.replicate n [AV.b false]).flatten = bl (List.replicate n false) := by
  induction n with
  | zero => rfl
  | succ n ih => rw [List.replicate_succ, List.flatten_cons, ih]; simp [bl, List.replicate_succ]

section
variable {α : Type} {enc : α → List AV} {k : Nat}
theorem fl_nil : fl enc [] = [] := rfl
theorem fl_cons (x : α) (l : List α) : fl enc (x :: l) = enc x ++ fl enc l := by simp [fl]
theorem fl_snoc (l : List α) (x : α) : fl enc l ++ enc x = fl enc (l ++ [x]) := by simp [fl]
theorem fl_app (l m : List α) : fl enc l ++ fl enc m = fl enc (l ++ m) := by simp [fl]
theorem fl_len (hk : ∀ x, (enc x).length = k) : ∀ (l : List α), (fl enc l).length = l.length * k
  | [] => by simp [fl]
  | x :: l => by rw [fl_cons, List.length_append, hk, fl_len hk l, List.length_cons, Nat.succ_mul, Nat.add_comm]
theorem fl_drop (hk : ∀ x, (enc x).length = k) : ∀ (l : List α) (n : Nat), (fl enc l).drop (n * k) = fl enc (l.drop n)
  | l, 0 => by simp
  | [], n + 1 => by simp [fl]
  | x :: l, n + 1 => by
    rw [fl_cons, Nat.succ_mul, List.drop_succ_cons, Nat.add_comm, ← List.drop_drop, List.drop_append_of_le_length (by rw [hk]; exact Nat.le_refl _), List.drop_of_length_le (l := enc x) (by rw [hk]; exact Nat.le_refl _), List.nil_append]
    exact fl_drop hk l n
theorem fl_take (hk : ∀ x, (enc x).length = k) : ∀ (l : List α) (n : Nat), (fl enc l).take (n * k) = fl enc (l.take n)
  | l, 0 => by simp [fl]
  | [], n + 1 => by simp [fl]
  | x :: l, n + 1 => by
    rw [fl_cons, Nat.succ_mul, List.take_succ_cons, fl_cons, Nat.add_comm, List.take_add, List.take_append_of_le_length (by rw [hk]; exact Nat.le_refl _), List.take_of_length_le (by rw [hk]; exact Nat.le_refl _), List.drop_append_of_le_length (by rw [hk]; exact Nat.le_refl _), List.drop_of_length_le (l := enc x) (by rw [hk]; exact Nat.le_refl _), List.nil_append, fl_take hk l n]
theorem fl_at (hk : ∀ x, (enc x).length = k) (d : α) {l : List α} {j : Nat} (hj : j < l.length) : ((fl enc l).drop (j * k)).take k = enc (l.getD j d) := by
  rw [fl_drop hk, List.drop_eq_getElem_cons hj, fl_cons, List.take_append_of_le_length (by rw [hk]; exact Nat.le_refl _), List.take_of_length_le (by rw [hk]; exact Nat.le_refl _)]
  simp [hj]
theorem fl_rd (hk : ∀ x, (enc x).length = k) (d : α) {l : List α} {j : Nat} (hj : j < l.length) : rd (fl enc l) (j * k) (some k) = some (.ag (enc (l.getD j d))) := by
  simp only [rd]
  rw [if_pos, fl_at hk d hj]
  rw [fl_len hk]
  have := Nat.mul_le_mul_right k (show j + 1 ≤ l.length by omega)
  rw [Nat.succ_mul] at this
  exact this
theorem fl_get (hk : ∀ x, (enc x).length = k) (d : α) {l : List α} {j c : Nat} (hj : j < l.length) (hc : c < k) : (fl enc l)[j * k + c]? = (enc (l.getD j d))[c]? := by
  rw [← fl_at hk d hj, List.getElem?_take, if_pos hc, List.getElem?_drop]
theorem fl_one (ho : ∀ x, (enc x).all AV.one = true) (l : List α) : (fl enc l).all AV.one = true := by
  induction l with
  | nil => rfl
  | cons x l ih => rw [fl_cons, List.all_append, ho, ih]; rfl
theorem fl_plain (ho : ∀ x, AV.plains (enc x) = true) (l : List α) : AV.plains (fl enc l) = true := by
  induction l with
  | nil => rfl
  | cons x l ih => rw [fl_cons]; exact plains_app (ho x) ih
end
theorem getD_lt {α : Type} {l : List α} {j : Nat} (h : j < l.length) (d : α) : l.getD j d = l[j] := by simp [h]

/-! ### Loops -/
/-- a loop: at the start of round k the slots ks hold S k x, and of the heap Hp k x holds -/
theorem k_loopS {P : Program} {N : Nat} {b : AC} {Q : Exit → St → AH → Prop} {K : St → AH → Prop} {st : St} {h : AH} {X : Type} (ks : List Nat) (len : Nat) (S : Nat → X → St) (Hp : Nat → X → AH → Prop) (x0 : X) (e0 : Am.keep ks st = S 0 x0) (h0 : Hp 0 x0 h)
    (round : ∀ k x h, k ≤ len → Hp k x h → h.ok → 0 < h.nx → W P N b (athen (fun st' h' => k < len ∧ ∃ x', Am.keep ks st' = S (k + 1) x' ∧ Hp (k + 1) x' h') Q) (S k x) h) : W P N (.loop b) (athen K Q) st h :=
  k_loop (fun n st h => ∃ k x, k ≤ len ∧ n = len - k ∧ Am.keep ks st = S k x ∧ Hp k x h) len ⟨0, x0, Nat.zero_le _, rfl, e0, h0⟩ fun n st h hI => by
    obtain ⟨k, x, hk, rfl, e, hp⟩ := hI
    refine k_inv e (w_ok fun ok pos => (round k x h hk hp ok pos).mono fun e st' h' q => ?_)
    cases e
    case normal =>
      obtain ⟨hlt, x', e', hp'⟩ := q
      exact ⟨len - (k + 1), by omega, k + 1, x', by omega, rfl, e', hp'⟩
    all_goals exact q
/-- a loop with a number that every round lowers -/
theorem k_loopW {P : Program} {N : Nat} {b : AC} {Q : Exit → St → AH → Prop} {K : St → AH → Prop} {st : St} {h : AH} {X : Type} (ks : List Nat) (S : X → St) (M : X → Nat) (Hp : X → AH → Prop) (x0 : X) (e0 : Am.keep ks st = S x0) (h0 : Hp x0 h)
    (round : ∀ x h, Hp x h → h.ok → 0 < h.nx → W P N b (athen (fun st' h' => ∃ x', M x' < M x ∧ Am.keep ks st' = S x' ∧ Hp x' h') Q) (S x) h) : W P N (.loop b) (athen K Q) st h :=
  k_loop (fun n st h => ∃ x, n = M x ∧ Am.keep ks st = S x ∧ Hp x h) (M x0) ⟨x0, rfl, e0, h0⟩ fun n st h hI => by
    obtain ⟨x, rfl, e, hp⟩ := hI
    refine k_inv e (w_ok fun ok pos => (round x h hp ok pos).mono fun e st' h' q => ?_)
    cases e
    case normal =>
      obtain ⟨x', hlt, e', hp'⟩ := q
      exact ⟨M x', hlt, x', rfl, e', hp'⟩
    all_goals exact q

theorem VALS : (type_of% @il_len) ∧ (type_of% @bl_len) ∧ (type_of% @il_get) ∧ (type_of% @bl_get) ∧ (type_of% @il_nil) ∧ (type_of% @bl_nil) ∧ (type_of% @il_snoc) ∧ (type_of% @bl_snoc) ∧ (type_of% @il_app) ∧ (type_of% @il_drop) ∧ (type_of% @il_take) ∧ (type_of% @il_set) ∧ (type_of% @bl_set) ∧ (type_of% @il_one) ∧ (type_of% @bl_one) ∧ (type_of% @H1_nx) ∧ (type_of% @H1_m) :=
  ⟨@il_len, @bl_len, @il_get, @bl_get, @il_nil, @bl_nil, @il_snoc, @bl_snoc, @il_app, @il_drop, @il_take, @il_set, @bl_set, @il_one, @bl_one, @H1_nx, @H1_m⟩
section
variable {P : Program} {N : Nat} {Q : Exit → St → AH → Prop} {K : St → AH → Prop} {st : St} {h : AH} {id : Nat}
theorem k_blkR {l : List AOper} (q : W P N (.reg l) (athen K (ablk id (athen K Q))) st h) : W P N (.blk id (.reg l)) (athen K Q) st h := k_blk q
theorem k_blkH {m : Nat} {l : List AOper} (q : W P N (.head m l) (athen K (ablk id (athen K Q))) st h) : W P N (.blk id (.head m l)) (athen K Q) st h := k_blk q
theorem k_blkC {c : AX} {a b : AC} (q : W P N (.cond c a b) (athen K (ablk id (athen K Q))) st h) : W P N (.blk id (.cond c a b)) (athen K Q) st h := k_blk q
theorem k_blkB {id' : Nat} {a : AC} (q : W P N (.blk id' a) (athen K (ablk id (athen K Q))) st h) : W P N (.blk id (.blk id' a)) (athen K Q) st h := k_blk q
theorem k_blkK (q : W P N .skip (athen K (ablk id (athen K Q))) st h) : W P N (.blk id .skip) (athen K Q) st h := k_blk q
theorem k_blkE {id' : Nat} (q : W P N (.exit id') (athen K (ablk id (athen K Q))) st h) : W P N (.blk id (.exit id')) (athen K Q) st h := k_blk q
end
theorem ends_eq {v r : AV} {h : AH} (e : v = r) : Ends v r h := e ▸ ends_of
theorem PC.use {P : Program} {f : Nat} {args : List AV} {v : AV} (c : PC P f args v) (h : AH) : ACalls P f args h fun r h' => r = v ∧ h' = h := c h
theorem PC.eq {P : Program} {f : Nat} {args : List AV} {v v' : AV} (c : PC P f args v) (e : v = v') : PC P f args v' := e ▸ c
theorem b_eq {x y : Bool} (h : x = y) : AV.b x = AV.b y := h ▸ rfl
theorem i_eq {k : IntKind} {x y : Int} (h : x = y) : AV.i k x = AV.i k y := h ▸ rfl
end Go.Am
