/- The abstract machine: rows of cells given by a function; more laws for reckoning. -/
import Derived.Test.YtbhkbaapfioijaaAmR
set_option linter.unusedVariables false
set_option linter.unusedSimpArgs false
namespace Go.Am

def cl (n : Nat) (f : Nat → AV) : List AV := (List.range n).map f
theorem cl_len (n : Nat) (f : Nat → AV) : (cl n f).length = n := by simp [cl]
theorem cl_get {n x : Nat} (f : Nat → AV) (h : x < n) : (cl n f)[x]? = some (f x) := by simp [cl, h]
theorem cl_ext {n : Nat} {f g : Nat → AV} (h : ∀ x, x < n → f x = g x) : cl n f = cl n g := by
  unfold cl
  exact List.map_congr_left fun x hx => h x (List.mem_range.1 hx)
theorem list_cl {l : List AV} {n : Nat} {f : Nat → AV} (hl : l.length = n) (h : ∀ x, x < n → l[x]? = some (f x)) : l = cl n f := by
  refine List.ext_getElem? fun i => ?_
  by_cases hi : i < n
  · rw [h i hi, cl_get f hi]
  · rw [List.getElem?_eq_none (by omega), List.getElem?_eq_none (by rw [cl_len]; omega)]
theorem cl_set (n x : Nat) (f : Nat → AV) (v : AV) : (cl n f).set x v = cl n fun y => if y = x then v else f y := by
  refine list_cl (by simp [cl_len]) fun y hy => ?_
  rw [List.getElem?_set]
  by_cases e : x = y
  · subst e; simp [cl_len, hy]
  · rw [if_neg e, if_neg (fun h => e h.symm), cl_get f hy]
theorem cl_app (n m : Nat) (f g : Nat → AV) : cl n f ++ cl m g = cl (n + m) fun x => if x < n then f x else g (x - n) := by
  refine list_cl (by simp [cl_len]) fun x hx => ?_
  by_cases h : x < n
  · rw [List.getElem?_append_left (by rw [cl_len]; exact h), cl_get f h, if_pos h]
  · rw [List.getElem?_append_right (by rw [cl_len]; omega), cl_len, cl_get g (by omega), if_neg h]
theorem cl_drop (n a : Nat) (f : Nat → AV) : (cl n f).drop a = cl (n - a) fun x => f (a + x) := by
  refine list_cl (by simp [cl_len]) fun x hx => ?_
  rw [List.getElem?_drop, cl_get f (by omega)]
theorem cl_take {n a : Nat} (f : Nat → AV) (h : a ≤ n) : (cl n f).take a = cl a f := by
  refine list_cl (by simp [cl_len]; omega) fun x hx => ?_
  rw [List.getElem?_take_of_lt hx, cl_get f (by omega)]
theorem cl_all (n : Nat) (f : Nat → AV) (p : AV → Bool) (h : ∀ x, x < n → p (f x) = true) : (cl n f).all p = true := by
  simp only [cl, List.all_map, List.all_eq_true, List.mem_range]
  exact h
theorem cl_one_i (n : Nat) (k : IntKind) (f : Nat → Int) : (cl n fun x => .i k (f x)).all AV.one = true := cl_all _ _ _ fun _ _ => rfl
theorem cl_one_b (n : Nat) (f : Nat → Bool) : (cl n fun x => .b (f x)).all AV.one = true := cl_all _ _ _ fun _ _ => rfl
theorem plains_cl {n : Nat} {f : Nat → AV} (h : ∀ x, x < n → (f x).plain = true) : AV.plains (cl n f) = true := by
  have : ∀ xs : List AV, (∀ x ∈ xs, x.plain = true) → AV.plains xs = true := by
    intro xs
    induction xs with
    | nil => intro _; rfl
    | cons y ys ih => intro h; simp only [AV.plains, Bool.and_eq_true]; exact ⟨h y (by simp), ih fun x hx => h x (by simp [hx])⟩
  refine this _ fun x hx => ?_
  simp only [cl, List.mem_map, List.mem_range] at hx
  obtain ⟨y, hy, rfl⟩ := hx
  exact h y hy
theorem cons_cl (v : AV) (n : Nat) (f : Nat → AV) : v :: cl n f = cl (n + 1) fun x => if x = 0 then v else f (x - 1) := by
  refine list_cl (by simp [cl_len]) fun x hx => ?_
  cases x with
  | zero => simp
  | succ x => simp only [List.getElem?_cons_succ]; rw [cl_get f (by omega), if_neg (by omega)]; simp
theorem cl_one (f : Nat → AV) : cl 1 f = [f 0] := rfl
theorem cl_zero (f : Nat → AV) : cl 0 f = [] := rfl
theorem row_m {h : AH} {t : Nat} {w : Bool} {cs : List AV} (e : h.m t = some (.cells w cs)) : h.row t = some cs := by simp [AH.row, e]
theorem AH.ok.m {h : AH} (ok : h.ok) {t : Nat} {b : Blk} (r : h.m t = some b) : t < h.nx := ok _ _ r
theorem cl_snoc (n : Nat) (f : Nat → AV) (v : AV) : cl n f ++ [v] = cl (n + 1) fun x => if x < n then f x else v := cl_app n 1 f fun _ => v
theorem cl_set_i (k : IntKind) (n x : Nat) (f : Nat → Int) (v : Int) : (cl n fun x => .i k (f x)).set x (.i k v) = cl n fun y => .i k (if y = x then v else f y) := by
  rw [cl_set]; refine cl_ext fun y hy => ?_; split <;> rfl
theorem cl_app_i (k : IntKind) (n m : Nat) (f g : Nat → Int) : (cl n fun x => .i k (f x)) ++ (cl m fun x => .i k (g x)) = cl (n + m) fun x => .i k (if x < n then f x else g (x - n)) := by
  rw [cl_app]; refine cl_ext fun y hy => ?_; split <;> rfl
theorem cl_snoc_i (k : IntKind) (n : Nat) (f : Nat → Int) (v : Int) : (cl n fun x => .i k (f x)) ++ [.i k v] = cl (n + 1) fun x => .i k (if x < n then f x else v) := by
  rw [cl_snoc]; refine cl_ext fun y hy => ?_; split <;> rfl
theorem cons_cl_i (k : IntKind) (n : Nat) (f : Nat → Int) (v : Int) : .i k v :: (cl n fun x => .i k (f x)) = cl (n + 1) fun x => .i k (if x = 0 then v else f (x - 1)) := by
  rw [cons_cl]; refine cl_ext fun y hy => ?_; split <;> rfl
theorem cl_set_b (n x : Nat) (f : Nat → Bool) (v : Bool) : (cl n fun x => .b (f x)).set x (.b v) = cl n fun y => .b (if y = x then v else f y) := by
  rw [cl_set]; refine cl_ext fun y hy => ?_; split <;> rfl
theorem cl_app_b (n m : Nat) (f g : Nat → Bool) : (cl n fun x => .b (f x)) ++ (cl m fun x => .b (g x)) = cl (n + m) fun x => .b (if x < n then f x else g (x - n)) := by
  rw [cl_app]; refine cl_ext fun y hy => ?_; split <;> rfl
theorem cl_snoc_b (n : Nat) (f : Nat → Bool) (v : Bool) : (cl n fun x => .b (f x)) ++ [.b v] = cl (n + 1) fun x => .b (if x < n then f x else v) := by
  rw [cl_snoc]; refine cl_ext fun y hy => ?_; split <;> rfl
theorem cons_cl_b (n : Nat) (f : Nat → Bool) (v : Bool) : .b v :: (cl n fun x => .b (f x)) = cl (n + 1) fun x => .b (if x = 0 then v else f (x - 1)) := by
  rw [cons_cl]; refine cl_ext fun y hy => ?_; split <;> rfl
theorem toNat_succ (n : Nat) : ((n : Int) + 1).toNat = n + 1 := rfl
theorem bump_bump (h : AH) (a b : Nat) : (h.bump a).bump b = h.bump (a + b) := by simp [AH.bump, Nat.add_assoc]
theorem k_inv {P : Program} {N : Nat} {c : AC} {Q : Exit → St → AH → Prop} {st s' : St} {h : AH} {ks : List Nat} (e : Am.keep ks st = s') (w : W P N c Q s' h) : W P N c Q st h := w_keep ks (by rw [e]; exact w)
theorem toNat_cast (n : Nat) : (n : Int).toNat = n := rfl
end Go.Am
