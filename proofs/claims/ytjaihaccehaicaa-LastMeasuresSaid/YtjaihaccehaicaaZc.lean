/- What the proof of the law needs: the abstract machine, the functions as it reads them, their contracts, part 3. -/
import Derived.Test.YtjaihaccehaicaaZb
import Derived.Deep.Slices
import Derived.Shelf.SlSortCmp.NoneTotal
set_option linter.unusedVariables false
set_option linter.unusedSimpArgs false
namespace Go.Am
theorem rs_mv {hd : Bool} {base i : Nat} {os : List AOper} {st : St} {h : AH} {d : Option Nat} (x : AX) : runS hd base (⟨d, none, .mv x⟩ :: os) i (some (st, h)) = runS hd base os (i + 1) ((some (x.val st)).map fun v => (put d v st, h)) := rfl
theorem rg_mv {hd : Bool} {base i : Nat} {os : List AOper} {st : St} {h : AH} {d : Option Nat} {s : Nat} {w : Bool} (x : AX) : runS hd base (⟨d, some (s, w), .mv x⟩ :: os) i (some (st, h)) = match guardOf (st.get s) w with
  | none => .bad
  | some g => runS hd base os (i + 1) (if g = true then (some (x.val (stS g st))).map fun v => (put d (.gd g v) st, h) else some (put d (.gd g ((some (x.val (stS g st))).getD .un)) st, h)) := by
  cases hq : guardOf (st.get s) w <;> simp only [runS, stepU, hq, runS_none, AOp.isCall, AOp.isApp, AOp.isVal, Bool.false_eq_true, Bool.false_and, Bool.or_self, if_false, if_true] <;> rfl
theorem rs_pick {hd : Bool} {base i : Nat} {os : List AOper} {st : St} {h : AH} {d : Option Nat} (c a b : AX) : runS hd base (⟨d, none, .pick c a b⟩ :: os) i (some (st, h)) = runS hd base os (i + 1) ((AOp.ev (AX.val st) h (.pick c a b)).map fun v => (put d v st, h)) := rfl
theorem rg_pick {hd : Bool} {base i : Nat} {os : List AOper} {st : St} {h : AH} {d : Option Nat} {s : Nat} {w : Bool} (c a b : AX) : runS hd base (⟨d, some (s, w), .pick c a b⟩ :: os) i (some (st, h)) = match guardOf (st.get s) w with
  | none => .bad
  | some g => runS hd base os (i + 1) (if g = true then (AOp.ev (AX.val (stS g st)) h (.pick c a b)).map fun v => (put d (.gd g v) st, h) else some (put d (.gd g ((AOp.ev (AX.val (stS g st)) h (.pick c a b)).getD .un)) st, h)) := by
  cases hq : guardOf (st.get s) w <;> simp only [runS, stepU, hq, runS_none, AOp.isCall, AOp.isApp, AOp.isVal, Bool.false_eq_true, Bool.false_and, Bool.or_self, if_false, if_true] <;> rfl
theorem rs_bin {hd : Bool} {base i : Nat} {os : List AOper} {st : St} {h : AH} {d : Option Nat} (bt : Bool) (op : BinOp) (x y : AX) : runS hd base (⟨d, none, .bin bt op x y⟩ :: os) i (some (st, h)) = runS hd base os (i + 1) ((abin bt op (x.val st) (y.val st)).map fun v => (put d v st, h)) := rfl
theorem rg_bin {hd : Bool} {base i : Nat} {os : List AOper} {st : St} {h : AH} {d : Option Nat} {s : Nat} {w : Bool} (bt : Bool) (op : BinOp) (x y : AX) : runS hd base (⟨d, some (s, w), .bin bt op x y⟩ :: os) i (some (st, h)) = match guardOf (st.get s) w with
  | none => .bad
  | some g => runS hd base os (i + 1) (if g = true then (abin bt op (x.val (stS g st)) (y.val (stS g st))).map fun v => (put d (.gd g v) st, h) else some (put d (.gd g ((abin bt op (x.val (stS g st)) (y.val (stS g st))).getD .un)) st, h)) := by
  cases hq : guardOf (st.get s) w <;> simp only [runS, stepU, hq, runS_none, AOp.isCall, AOp.isApp, AOp.isVal, Bool.false_eq_true, Bool.false_and, Bool.or_self, if_false, if_true] <;> rfl
theorem rs_neg {hd : Bool} {base i : Nat} {os : List AOper} {st : St} {h : AH} {d : Option Nat} (x : AX) : runS hd base (⟨d, none, .neg x⟩ :: os) i (some (st, h)) = runS hd base os (i + 1) ((AOp.ev (AX.val st) h (.neg x)).map fun v => (put d v st, h)) := rfl
theorem rg_neg {hd : Bool} {base i : Nat} {os : List AOper} {st : St} {h : AH} {d : Option Nat} {s : Nat} {w : Bool} (x : AX) : runS hd base (⟨d, some (s, w), .neg x⟩ :: os) i (some (st, h)) = match guardOf (st.get s) w with
  | none => .bad
  | some g => runS hd base os (i + 1) (if g = true then (AOp.ev (AX.val (stS g st)) h (.neg x)).map fun v => (put d (.gd g v) st, h) else some (put d (.gd g ((AOp.ev (AX.val (stS g st)) h (.neg x)).getD .un)) st, h)) := by
  cases hq : guardOf (st.get s) w <;> simp only [runS, stepU, hq, runS_none, AOp.isCall, AOp.isApp, AOp.isVal, Bool.false_eq_true, Bool.false_and, Bool.or_self, if_false, if_true] <;> rfl
theorem rs_not {hd : Bool} {base i : Nat} {os : List AOper} {st : St} {h : AH} {d : Option Nat} (x : AX) : runS hd base (⟨d, none, .not x⟩ :: os) i (some (st, h)) = runS hd base os (i + 1) ((AOp.ev (AX.val st) h (.not x)).map fun v => (put d v st, h)) := rfl
theorem rg_not {hd : Bool} {base i : Nat} {os : List AOper} {st : St} {h : AH} {d : Option Nat} {s : Nat} {w : Bool} (x : AX) : runS hd base (⟨d, some (s, w), .not x⟩ :: os) i (some (st, h)) = match guardOf (st.get s) w with
  | none => .bad
  | some g => runS hd base os (i + 1) (if g = true then (AOp.ev (AX.val (stS g st)) h (.not x)).map fun v => (put d (.gd g v) st, h) else some (put d (.gd g ((AOp.ev (AX.val (stS g st)) h (.not x)).getD .un)) st, h)) := by
  cases hq : guardOf (st.get s) w <;> simp only [runS, stepU, hq, runS_none, AOp.isCall, AOp.isApp, AOp.isVal, Bool.false_eq_true, Bool.false_and, Bool.or_self, if_false, if_true] <;> rfl
theorem rs_conv {hd : Bool} {base i : Nat} {os : List AOper} {st : St} {h : AH} {d : Option Nat} (k : IntKind) (x : AX) : runS hd base (⟨d, none, .conv k x⟩ :: os) i (some (st, h)) = runS hd base os (i + 1) ((AOp.ev (AX.val st) h (.conv k x)).map fun v => (put d v st, h)) := rfl
theorem rg_conv {hd : Bool} {base i : Nat} {os : List AOper} {st : St} {h : AH} {d : Option Nat} {s : Nat} {w : Bool} (k : IntKind) (x : AX) : runS hd base (⟨d, some (s, w), .conv k x⟩ :: os) i (some (st, h)) = match guardOf (st.get s) w with
  | none => .bad
  | some g => runS hd base os (i + 1) (if g = true then (AOp.ev (AX.val (stS g st)) h (.conv k x)).map fun v => (put d (.gd g v) st, h) else some (put d (.gd g ((AOp.ev (AX.val (stS g st)) h (.conv k x)).getD .un)) st, h)) := by
  cases hq : guardOf (st.get s) w <;> simp only [runS, stepU, hq, runS_none, AOp.isCall, AOp.isApp, AOp.isVal, Bool.false_eq_true, Bool.false_and, Bool.or_self, if_false, if_true] <;> rfl
theorem rs_ext {hd : Bool} {base i : Nat} {os : List AOper} {st : St} {h : AH} {d : Option Nat} (x : AX) (j : Nat) : runS hd base (⟨d, none, .ext x j⟩ :: os) i (some (st, h)) = runS hd base os (i + 1) ((AOp.ev (AX.val st) h (.ext x j)).map fun v => (put d v st, h)) := rfl
theorem rg_ext {hd : Bool} {base i : Nat} {os : List AOper} {st : St} {h : AH} {d : Option Nat} {s : Nat} {w : Bool} (x : AX) (j : Nat) : runS hd base (⟨d, some (s, w), .ext x j⟩ :: os) i (some (st, h)) = match guardOf (st.get s) w with
  | none => .bad
  | some g => runS hd base os (i + 1) (if g = true then (AOp.ev (AX.val (stS g st)) h (.ext x j)).map fun v => (put d (.gd g v) st, h) else some (put d (.gd g ((AOp.ev (AX.val (stS g st)) h (.ext x j)).getD .un)) st, h)) := by
  cases hq : guardOf (st.get s) w <;> simp only [runS, stepU, hq, runS_none, AOp.isCall, AOp.isApp, AOp.isVal, Bool.false_eq_true, Bool.false_and, Bool.or_self, if_false, if_true] <;> rfl
theorem rs_fa {hd : Bool} {base i : Nat} {os : List AOper} {st : St} {h : AH} {d : Option Nat} (x : AX) (o : Nat) : runS hd base (⟨d, none, .fa x o⟩ :: os) i (some (st, h)) = runS hd base os (i + 1) ((AOp.ev (AX.val st) h (.fa x o)).map fun v => (put d v st, h)) := rfl
theorem rg_fa {hd : Bool} {base i : Nat} {os : List AOper} {st : St} {h : AH} {d : Option Nat} {s : Nat} {w : Bool} (x : AX) (o : Nat) : runS hd base (⟨d, some (s, w), .fa x o⟩ :: os) i (some (st, h)) = match guardOf (st.get s) w with
  | none => .bad
  | some g => runS hd base os (i + 1) (if g = true then (AOp.ev (AX.val (stS g st)) h (.fa x o)).map fun v => (put d (.gd g v) st, h) else some (put d (.gd g ((AOp.ev (AX.val (stS g st)) h (.fa x o)).getD .un)) st, h)) := by
  cases hq : guardOf (st.get s) w <;> simp only [runS, stepU, hq, runS_none, AOp.isCall, AOp.isApp, AOp.isVal, Bool.false_eq_true, Bool.false_and, Bool.or_self, if_false, if_true] <;> rfl
theorem rs_fld {hd : Bool} {base i : Nat} {os : List AOper} {st : St} {h : AH} {d : Option Nat} (x : AX) (o : Nat) (n : Option Nat) : runS hd base (⟨d, none, .fld x o n⟩ :: os) i (some (st, h)) = runS hd base os (i + 1) ((AOp.ev (AX.val st) h (.fld x o n)).map fun v => (put d v st, h)) := rfl
theorem rg_fld {hd : Bool} {base i : Nat} {os : List AOper} {st : St} {h : AH} {d : Option Nat} {s : Nat} {w : Bool} (x : AX) (o : Nat) (n : Option Nat) : runS hd base (⟨d, some (s, w), .fld x o n⟩ :: os) i (some (st, h)) = match guardOf (st.get s) w with
  | none => .bad
  | some g => runS hd base os (i + 1) (if g = true then (AOp.ev (AX.val (stS g st)) h (.fld x o n)).map fun v => (put d (.gd g v) st, h) else some (put d (.gd g ((AOp.ev (AX.val (stS g st)) h (.fld x o n)).getD .un)) st, h)) := by
  cases hq : guardOf (st.get s) w <;> simp only [runS, stepU, hq, runS_none, AOp.isCall, AOp.isApp, AOp.isVal, Bool.false_eq_true, Bool.false_and, Bool.or_self, if_false, if_true] <;> rfl
theorem rs_ia {hd : Bool} {base i : Nat} {os : List AOper} {st : St} {h : AH} {d : Option Nat} (k : Nat) (x y : AX) : runS hd base (⟨d, none, .ia k x y⟩ :: os) i (some (st, h)) = runS hd base os (i + 1) ((AOp.ev (AX.val st) h (.ia k x y)).map fun v => (put d v st, h)) := rfl
theorem rg_ia {hd : Bool} {base i : Nat} {os : List AOper} {st : St} {h : AH} {d : Option Nat} {s : Nat} {w : Bool} (k : Nat) (x y : AX) : runS hd base (⟨d, some (s, w), .ia k x y⟩ :: os) i (some (st, h)) = match guardOf (st.get s) w with
  | none => .bad
  | some g => runS hd base os (i + 1) (if g = true then (AOp.ev (AX.val (stS g st)) h (.ia k x y)).map fun v => (put d (.gd g v) st, h) else some (put d (.gd g ((AOp.ev (AX.val (stS g st)) h (.ia k x y)).getD .un)) st, h)) := by
  cases hq : guardOf (st.get s) w <;> simp only [runS, stepU, hq, runS_none, AOp.isCall, AOp.isApp, AOp.isVal, Bool.false_eq_true, Bool.false_and, Bool.or_self, if_false, if_true] <;> rfl
theorem rs_iap {hd : Bool} {base i : Nat} {os : List AOper} {st : St} {h : AH} {d : Option Nat} (n k : Nat) (x y : AX) : runS hd base (⟨d, none, .iap n k x y⟩ :: os) i (some (st, h)) = runS hd base os (i + 1) ((AOp.ev (AX.val st) h (.iap n k x y)).map fun v => (put d v st, h)) := rfl
theorem rg_iap {hd : Bool} {base i : Nat} {os : List AOper} {st : St} {h : AH} {d : Option Nat} {s : Nat} {w : Bool} (n k : Nat) (x y : AX) : runS hd base (⟨d, some (s, w), .iap n k x y⟩ :: os) i (some (st, h)) = match guardOf (st.get s) w with
  | none => .bad
  | some g => runS hd base os (i + 1) (if g = true then (AOp.ev (AX.val (stS g st)) h (.iap n k x y)).map fun v => (put d (.gd g v) st, h) else some (put d (.gd g ((AOp.ev (AX.val (stS g st)) h (.iap n k x y)).getD .un)) st, h)) := by
  cases hq : guardOf (st.get s) w <;> simp only [runS, stepU, hq, runS_none, AOp.isCall, AOp.isApp, AOp.isVal, Bool.false_eq_true, Bool.false_and, Bool.or_self, if_false, if_true] <;> rfl
theorem rs_iv {hd : Bool} {base i : Nat} {os : List AOper} {st : St} {h : AH} {d : Option Nat} (n k : Nat) (b : Bool) (x y : AX) : runS hd base (⟨d, none, .iv n k b x y⟩ :: os) i (some (st, h)) = runS hd base os (i + 1) ((AOp.ev (AX.val st) h (.iv n k b x y)).map fun v => (put d v st, h)) := rfl
theorem rg_iv {hd : Bool} {base i : Nat} {os : List AOper} {st : St} {h : AH} {d : Option Nat} {s : Nat} {w : Bool} (n k : Nat) (b : Bool) (x y : AX) : runS hd base (⟨d, some (s, w), .iv n k b x y⟩ :: os) i (some (st, h)) = match guardOf (st.get s) w with
  | none => .bad
  | some g => runS hd base os (i + 1) (if g = true then (AOp.ev (AX.val (stS g st)) h (.iv n k b x y)).map fun v => (put d (.gd g v) st, h) else some (put d (.gd g ((AOp.ev (AX.val (stS g st)) h (.iv n k b x y)).getD .un)) st, h)) := by
  cases hq : guardOf (st.get s) w <;> simp only [runS, stepU, hq, runS_none, AOp.isCall, AOp.isApp, AOp.isVal, Bool.false_eq_true, Bool.false_and, Bool.or_self, if_false, if_true] <;> rfl
theorem rs_sli {hd : Bool} {base i : Nat} {os : List AOper} {st : St} {h : AH} {d : Option Nat} (k : Nat) (x : AX) (lo hi : Option AX) : runS hd base (⟨d, none, .sli k x lo hi⟩ :: os) i (some (st, h)) = runS hd base os (i + 1) ((AOp.ev (AX.val st) h (.sli k x lo hi)).map fun v => (put d v st, h)) := rfl
theorem rg_sli {hd : Bool} {base i : Nat} {os : List AOper} {st : St} {h : AH} {d : Option Nat} {s : Nat} {w : Bool} (k : Nat) (x : AX) (lo hi : Option AX) : runS hd base (⟨d, some (s, w), .sli k x lo hi⟩ :: os) i (some (st, h)) = match guardOf (st.get s) w with
  | none => .bad
  | some g => runS hd base os (i + 1) (if g = true then (AOp.ev (AX.val (stS g st)) h (.sli k x lo hi)).map fun v => (put d (.gd g v) st, h) else some (put d (.gd g ((AOp.ev (AX.val (stS g st)) h (.sli k x lo hi)).getD .un)) st, h)) := by
  cases hq : guardOf (st.get s) w <;> simp only [runS, stepU, hq, runS_none, AOp.isCall, AOp.isApp, AOp.isVal, Bool.false_eq_true, Bool.false_and, Bool.or_self, if_false, if_true] <;> rfl
theorem rs_slp {hd : Bool} {base i : Nat} {os : List AOper} {st : St} {h : AH} {d : Option Nat} (n k : Nat) (x : AX) (lo hi : Option AX) : runS hd base (⟨d, none, .slp n k x lo hi⟩ :: os) i (some (st, h)) = runS hd base os (i + 1) ((AOp.ev (AX.val st) h (.slp n k x lo hi)).map fun v => (put d v st, h)) := rfl
theorem rg_slp {hd : Bool} {base i : Nat} {os : List AOper} {st : St} {h : AH} {d : Option Nat} {s : Nat} {w : Bool} (n k : Nat) (x : AX) (lo hi : Option AX) : runS hd base (⟨d, some (s, w), .slp n k x lo hi⟩ :: os) i (some (st, h)) = match guardOf (st.get s) w with
  | none => .bad
  | some g => runS hd base os (i + 1) (if g = true then (AOp.ev (AX.val (stS g st)) h (.slp n k x lo hi)).map fun v => (put d (.gd g v) st, h) else some (put d (.gd g ((AOp.ev (AX.val (stS g st)) h (.slp n k x lo hi)).getD .un)) st, h)) := by
  cases hq : guardOf (st.get s) w <;> simp only [runS, stepU, hq, runS_none, AOp.isCall, AOp.isApp, AOp.isVal, Bool.false_eq_true, Bool.false_and, Bool.or_self, if_false, if_true] <;> rfl
theorem rs_nck {hd : Bool} {base i : Nat} {os : List AOper} {st : St} {h : AH} {d : Option Nat} (x : AX) : runS hd base (⟨d, none, .nck x⟩ :: os) i (some (st, h)) = runS hd base os (i + 1) ((AOp.ev (AX.val st) h (.nck x)).map fun v => (put d v st, h)) := rfl
theorem rg_nck {hd : Bool} {base i : Nat} {os : List AOper} {st : St} {h : AH} {d : Option Nat} {s : Nat} {w : Bool} (x : AX) : runS hd base (⟨d, some (s, w), .nck x⟩ :: os) i (some (st, h)) = match guardOf (st.get s) w with
  | none => .bad
  | some g => runS hd base os (i + 1) (if g = true then (AOp.ev (AX.val (stS g st)) h (.nck x)).map fun v => (put d (.gd g v) st, h) else some (put d (.gd g ((AOp.ev (AX.val (stS g st)) h (.nck x)).getD .un)) st, h)) := by
  cases hq : guardOf (st.get s) w <;> simp only [runS, stepU, hq, runS_none, AOp.isCall, AOp.isApp, AOp.isVal, Bool.false_eq_true, Bool.false_and, Bool.or_self, if_false, if_true] <;> rfl
theorem rs_bld {hd : Bool} {base i : Nat} {os : List AOper} {st : St} {h : AH} {d : Option Nat} (z : List AV) (ps : List (Nat × Nat × AX)) : runS hd base (⟨d, none, .bld z ps⟩ :: os) i (some (st, h)) = runS hd base os (i + 1) ((AOp.ev (AX.val st) h (.bld z ps)).map fun v => (put d v st, h)) := rfl
theorem rg_bld {hd : Bool} {base i : Nat} {os : List AOper} {st : St} {h : AH} {d : Option Nat} {s : Nat} {w : Bool} (z : List AV) (ps : List (Nat × Nat × AX)) : runS hd base (⟨d, some (s, w), .bld z ps⟩ :: os) i (some (st, h)) = match guardOf (st.get s) w with
  | none => .bad
  | some g => runS hd base os (i + 1) (if g = true then (AOp.ev (AX.val (stS g st)) h (.bld z ps)).map fun v => (put d (.gd g v) st, h) else some (put d (.gd g ((AOp.ev (AX.val (stS g st)) h (.bld z ps)).getD .un)) st, h)) := by
  cases hq : guardOf (st.get s) w <;> simp only [runS, stepU, hq, runS_none, AOp.isCall, AOp.isApp, AOp.isVal, Bool.false_eq_true, Bool.false_and, Bool.or_self, if_false, if_true] <;> rfl
theorem rs_len {hd : Bool} {base i : Nat} {os : List AOper} {st : St} {h : AH} {d : Option Nat} (x : AX) : runS hd base (⟨d, none, .len x⟩ :: os) i (some (st, h)) = runS hd base os (i + 1) ((AOp.ev (AX.val st) h (.len x)).map fun v => (put d v st, h)) := rfl
theorem rg_len {hd : Bool} {base i : Nat} {os : List AOper} {st : St} {h : AH} {d : Option Nat} {s : Nat} {w : Bool} (x : AX) : runS hd base (⟨d, some (s, w), .len x⟩ :: os) i (some (st, h)) = match guardOf (st.get s) w with
  | none => .bad
  | some g => runS hd base os (i + 1) (if g = true then (AOp.ev (AX.val (stS g st)) h (.len x)).map fun v => (put d (.gd g v) st, h) else some (put d (.gd g ((AOp.ev (AX.val (stS g st)) h (.len x)).getD .un)) st, h)) := by
  cases hq : guardOf (st.get s) w <;> simp only [runS, stepU, hq, runS_none, AOp.isCall, AOp.isApp, AOp.isVal, Bool.false_eq_true, Bool.false_and, Bool.or_self, if_false, if_true] <;> rfl
theorem rs_mm {hd : Bool} {base i : Nat} {os : List AOper} {st : St} {h : AH} {d : Option Nat} (mx : Bool) (x : AX) (xs : List AX) : runS hd base (⟨d, none, .mm mx x xs⟩ :: os) i (some (st, h)) = runS hd base os (i + 1) ((amm mx (x.val st) (xs.map (AX.val st))).map fun v => (put d v st, h)) := rfl
theorem rg_mm {hd : Bool} {base i : Nat} {os : List AOper} {st : St} {h : AH} {d : Option Nat} {s : Nat} {w : Bool} (mx : Bool) (x : AX) (xs : List AX) : runS hd base (⟨d, some (s, w), .mm mx x xs⟩ :: os) i (some (st, h)) = match guardOf (st.get s) w with
  | none => .bad
  | some g => runS hd base os (i + 1) (if g = true then (amm mx (x.val (stS g st)) (xs.map (AX.val (stS g st)))).map fun v => (put d (.gd g v) st, h) else some (put d (.gd g ((amm mx (x.val (stS g st)) (xs.map (AX.val (stS g st)))).getD .un)) st, h)) := by
  cases hq : guardOf (st.get s) w <;> simp only [runS, stepU, hq, runS_none, AOp.isCall, AOp.isApp, AOp.isVal, Bool.false_eq_true, Bool.false_and, Bool.or_self, if_false, if_true] <;> rfl
theorem rs_mkf {hd : Bool} {base i : Nat} {os : List AOper} {st : St} {h : AH} {d : Option Nat} (f : Nat) (a b : List AX) : runS hd base (⟨d, none, .mkf f a b⟩ :: os) i (some (st, h)) = runS hd base os (i + 1) ((some (.fn f (a.map (AX.val st)) (b.map (AX.val st)))).map fun v => (put d v st, h)) := rfl
theorem rg_mkf {hd : Bool} {base i : Nat} {os : List AOper} {st : St} {h : AH} {d : Option Nat} {s : Nat} {w : Bool} (f : Nat) (a b : List AX) : runS hd base (⟨d, some (s, w), .mkf f a b⟩ :: os) i (some (st, h)) = match guardOf (st.get s) w with
  | none => .bad
  | some g => runS hd base os (i + 1) (if g = true then (some (.fn f (a.map (AX.val (stS g st))) (b.map (AX.val (stS g st))))).map fun v => (put d (.gd g v) st, h) else some (put d (.gd g ((some (.fn f (a.map (AX.val (stS g st))) (b.map (AX.val (stS g st))))).getD .un)) st, h)) := by
  cases hq : guardOf (st.get s) w <;> simp only [runS, stepU, hq, runS_none, AOp.isCall, AOp.isApp, AOp.isVal, Bool.false_eq_true, Bool.false_and, Bool.or_self, if_false, if_true] <;> rfl
theorem rs_eqn {hd : Bool} {base i : Nat} {os : List AOper} {st : St} {h : AH} {d : Option Nat} (ng : Bool) (x y : AX) : runS hd base (⟨d, none, .eqn ng x y⟩ :: os) i (some (st, h)) = runS hd base os (i + 1) ((AOp.ev (AX.val st) h (.eqn ng x y)).map fun v => (put d v st, h)) := rfl
theorem rg_eqn {hd : Bool} {base i : Nat} {os : List AOper} {st : St} {h : AH} {d : Option Nat} {s : Nat} {w : Bool} (ng : Bool) (x y : AX) : runS hd base (⟨d, some (s, w), .eqn ng x y⟩ :: os) i (some (st, h)) = match guardOf (st.get s) w with
  | none => .bad
  | some g => runS hd base os (i + 1) (if g = true then (AOp.ev (AX.val (stS g st)) h (.eqn ng x y)).map fun v => (put d (.gd g v) st, h) else some (put d (.gd g ((AOp.ev (AX.val (stS g st)) h (.eqn ng x y)).getD .un)) st, h)) := by
  cases hq : guardOf (st.get s) w <;> simp only [runS, stepU, hq, runS_none, AOp.isCall, AOp.isApp, AOp.isVal, Bool.false_eq_true, Bool.false_and, Bool.or_self, if_false, if_true] <;> rfl
theorem rs_eqa {hd : Bool} {base i : Nat} {os : List AOper} {st : St} {h : AH} {d : Option Nat} (ng : Bool) (ks : List Nat) (x y : AX) : runS hd base (⟨d, none, .eqa ng ks x y⟩ :: os) i (some (st, h)) = runS hd base os (i + 1) ((AOp.ev (AX.val st) h (.eqa ng ks x y)).map fun v => (put d v st, h)) := rfl
theorem rg_eqa {hd : Bool} {base i : Nat} {os : List AOper} {st : St} {h : AH} {d : Option Nat} {s : Nat} {w : Bool} (ng : Bool) (ks : List Nat) (x y : AX) : runS hd base (⟨d, some (s, w), .eqa ng ks x y⟩ :: os) i (some (st, h)) = match guardOf (st.get s) w with
  | none => .bad
  | some g => runS hd base os (i + 1) (if g = true then (AOp.ev (AX.val (stS g st)) h (.eqa ng ks x y)).map fun v => (put d (.gd g v) st, h) else some (put d (.gd g ((AOp.ev (AX.val (stS g st)) h (.eqa ng ks x y)).getD .un)) st, h)) := by
  cases hq : guardOf (st.get s) w <;> simp only [runS, stepU, hq, runS_none, AOp.isCall, AOp.isApp, AOp.isVal, Bool.false_eq_true, Bool.false_and, Bool.or_self, if_false, if_true] <;> rfl
theorem rs_eqs {hd : Bool} {base i : Nat} {os : List AOper} {st : St} {h : AH} {d : Option Nat} (ng : Bool) (x y : AX) : runS hd base (⟨d, none, .eqs ng x y⟩ :: os) i (some (st, h)) = runS hd base os (i + 1) ((AOp.ev (AX.val st) h (.eqs ng x y)).map fun v => (put d v st, h)) := rfl
theorem rg_eqs {hd : Bool} {base i : Nat} {os : List AOper} {st : St} {h : AH} {d : Option Nat} {s : Nat} {w : Bool} (ng : Bool) (x y : AX) : runS hd base (⟨d, some (s, w), .eqs ng x y⟩ :: os) i (some (st, h)) = match guardOf (st.get s) w with
  | none => .bad
  | some g => runS hd base os (i + 1) (if g = true then (AOp.ev (AX.val (stS g st)) h (.eqs ng x y)).map fun v => (put d (.gd g v) st, h) else some (put d (.gd g ((AOp.ev (AX.val (stS g st)) h (.eqs ng x y)).getD .un)) st, h)) := by
  cases hq : guardOf (st.get s) w <;> simp only [runS, stepU, hq, runS_none, AOp.isCall, AOp.isApp, AOp.isVal, Bool.false_eq_true, Bool.false_and, Bool.or_self, if_false, if_true] <;> rfl
theorem rs_str {hd : Bool} {base i : Nat} {os : List AOper} {st : St} {h : AH} {d : Option Nat} (x : AX) : runS hd base (⟨d, none, .str x⟩ :: os) i (some (st, h)) = runS hd base os (i + 1) ((AOp.ev (AX.val st) h (.str x)).map fun v => (put d v st, h)) := rfl
theorem rg_str {hd : Bool} {base i : Nat} {os : List AOper} {st : St} {h : AH} {d : Option Nat} {s : Nat} {w : Bool} (x : AX) : runS hd base (⟨d, some (s, w), .str x⟩ :: os) i (some (st, h)) = match guardOf (st.get s) w with
  | none => .bad
  | some g => runS hd base os (i + 1) (if g = true then (AOp.ev (AX.val (stS g st)) h (.str x)).map fun v => (put d (.gd g v) st, h) else some (put d (.gd g ((AOp.ev (AX.val (stS g st)) h (.str x)).getD .un)) st, h)) := by
  cases hq : guardOf (st.get s) w <;> simp only [runS, stepU, hq, runS_none, AOp.isCall, AOp.isApp, AOp.isVal, Bool.false_eq_true, Bool.false_and, Bool.or_self, if_false, if_true] <;> rfl
theorem rs_sl3 {hd : Bool} {base i : Nat} {os : List AOper} {st : St} {h : AH} {d : Option Nat} (k : Nat) (x : AX) (lo : Option AX) (hi m : AX) : runS hd base (⟨d, none, .sl3 k x lo hi m⟩ :: os) i (some (st, h)) = runS hd base os (i + 1) ((AOp.ev (AX.val st) h (.sl3 k x lo hi m)).map fun v => (put d v st, h)) := rfl
theorem rg_sl3 {hd : Bool} {base i : Nat} {os : List AOper} {st : St} {h : AH} {d : Option Nat} {s : Nat} {w : Bool} (k : Nat) (x : AX) (lo : Option AX) (hi m : AX) : runS hd base (⟨d, some (s, w), .sl3 k x lo hi m⟩ :: os) i (some (st, h)) = match guardOf (st.get s) w with
  | none => .bad
  | some g => runS hd base os (i + 1) (if g = true then (AOp.ev (AX.val (stS g st)) h (.sl3 k x lo hi m)).map fun v => (put d (.gd g v) st, h) else some (put d (.gd g ((AOp.ev (AX.val (stS g st)) h (.sl3 k x lo hi m)).getD .un)) st, h)) := by
  cases hq : guardOf (st.get s) w <;> simp only [runS, stepU, hq, runS_none, AOp.isCall, AOp.isApp, AOp.isVal, Bool.false_eq_true, Bool.false_and, Bool.or_self, if_false, if_true] <;> rfl
theorem rs_ld {hd : Bool} {base i : Nat} {os : List AOper} {st : St} {h : AH} {d : Option Nat} (n : Option Nat) (x : AX) : runS hd base (⟨d, none, .ld n x⟩ :: os) i (some (st, h)) = runS hd base os (i + 1) ((AOp.ev (AX.val st) h (.ld n x)).map fun v => (put d v st, h)) := rfl
theorem rg_ld {hd : Bool} {base i : Nat} {os : List AOper} {st : St} {h : AH} {d : Option Nat} {s : Nat} {w : Bool} (n : Option Nat) (x : AX) : runS hd base (⟨d, some (s, w), .ld n x⟩ :: os) i (some (st, h)) = match guardOf (st.get s) w with
  | none => .bad
  | some g => runS hd base os (i + 1) (if g = true then (AOp.ev (AX.val (stS g st)) h (.ld n x)).map fun v => (put d (.gd g v) st, h) else some (put d (.gd g ((AOp.ev (AX.val (stS g st)) h (.ld n x)).getD .un)) st, h)) := by
  cases hq : guardOf (st.get s) w <;> simp only [runS, stepU, hq, runS_none, AOp.isCall, AOp.isApp, AOp.isVal, Bool.false_eq_true, Bool.false_and, Bool.or_self, if_false, if_true] <;> rfl
theorem rs_mlk {hd : Bool} {base i : Nat} {os : List AOper} {st : St} {h : AH} {d : Option Nat} (kk : Option (List Nat)) (z : AV) (ok : Bool) (x k : AX) : runS hd base (⟨d, none, .mlk kk z ok x k⟩ :: os) i (some (st, h)) = runS hd base os (i + 1) ((AOp.ev (AX.val st) h (.mlk kk z ok x k)).map fun v => (put d v st, h)) := rfl
theorem rg_mlk {hd : Bool} {base i : Nat} {os : List AOper} {st : St} {h : AH} {d : Option Nat} {s : Nat} {w : Bool} (kk : Option (List Nat)) (z : AV) (ok : Bool) (x k : AX) : runS hd base (⟨d, some (s, w), .mlk kk z ok x k⟩ :: os) i (some (st, h)) = match guardOf (st.get s) w with
  | none => .bad
  | some g => runS hd base os (i + 1) (if g = true then (AOp.ev (AX.val (stS g st)) h (.mlk kk z ok x k)).map fun v => (put d (.gd g v) st, h) else some (put d (.gd g ((AOp.ev (AX.val (stS g st)) h (.mlk kk z ok x k)).getD .un)) st, h)) := by
  cases hq : guardOf (st.get s) w <;> simp only [runS, stepU, hq, runS_none, AOp.isCall, AOp.isApp, AOp.isVal, Bool.false_eq_true, Bool.false_and, Bool.or_self, if_false, if_true] <;> rfl
theorem rs_mln {hd : Bool} {base i : Nat} {os : List AOper} {st : St} {h : AH} {d : Option Nat} (x : AX) : runS hd base (⟨d, none, .mln x⟩ :: os) i (some (st, h)) = runS hd base os (i + 1) ((AOp.ev (AX.val st) h (.mln x)).map fun v => (put d v st, h)) := rfl
theorem rg_mln {hd : Bool} {base i : Nat} {os : List AOper} {st : St} {h : AH} {d : Option Nat} {s : Nat} {w : Bool} (x : AX) : runS hd base (⟨d, some (s, w), .mln x⟩ :: os) i (some (st, h)) = match guardOf (st.get s) w with
  | none => .bad
  | some g => runS hd base os (i + 1) (if g = true then (AOp.ev (AX.val (stS g st)) h (.mln x)).map fun v => (put d (.gd g v) st, h) else some (put d (.gd g ((AOp.ev (AX.val (stS g st)) h (.mln x)).getD .un)) st, h)) := by
  cases hq : guardOf (st.get s) w <;> simp only [runS, stepU, hq, runS_none, AOp.isCall, AOp.isApp, AOp.isVal, Bool.false_eq_true, Bool.false_and, Bool.or_self, if_false, if_true] <;> rfl
theorem rs_box {hd : Bool} {base i : Nat} {os : List AOper} {st : St} {h : AH} {d : Option Nat} (x : AX) : runS hd base (⟨d, none, .box x⟩ :: os) i (some (st, h)) = runS hd base os (i + 1) ((AOp.al (AX.val st) (base + i) (.box x)).map fun p => (put d p.1 st, h.set (base + i) (.cells true p.2))) := rfl
theorem rg_box {hd : Bool} {base i : Nat} {os : List AOper} {st : St} {h : AH} {d : Option Nat} {s : Nat} {w : Bool} (x : AX) : runS hd base (⟨d, some (s, w), .box x⟩ :: os) i (some (st, h)) = match guardOf (st.get s) w with
  | none => .bad
  | some g => runS hd base os (i + 1) (if g = true then (AOp.al (AX.val (stS g st)) (base + i) (.box x)).map fun p => (put d (.gd g p.1) st, h.set (base + i) (.cells true p.2)) else some (put d (.gd g .un) st, h)) := by
  cases hq : guardOf (st.get s) w <;> simp only [runS, stepU, hq, runS_none, AOp.isCall, AOp.isApp, AOp.isVal, AOp.isAl, Bool.false_eq_true, Bool.false_and, Bool.or_self, if_false, if_true] <;> rfl
theorem rs_alloc {hd : Bool} {base i : Nat} {os : List AOper} {st : St} {h : AH} {d : Option Nat} (z : List AV) : runS hd base (⟨d, none, .alloc z⟩ :: os) i (some (st, h)) = runS hd base os (i + 1) ((AOp.al (AX.val st) (base + i) (.alloc z)).map fun p => (put d p.1 st, h.set (base + i) (.cells true p.2))) := rfl
theorem rg_alloc {hd : Bool} {base i : Nat} {os : List AOper} {st : St} {h : AH} {d : Option Nat} {s : Nat} {w : Bool} (z : List AV) : runS hd base (⟨d, some (s, w), .alloc z⟩ :: os) i (some (st, h)) = match guardOf (st.get s) w with
  | none => .bad
  | some g => runS hd base os (i + 1) (if g = true then (AOp.al (AX.val (stS g st)) (base + i) (.alloc z)).map fun p => (put d (.gd g p.1) st, h.set (base + i) (.cells true p.2)) else some (put d (.gd g .un) st, h)) := by
  cases hq : guardOf (st.get s) w <;> simp only [runS, stepU, hq, runS_none, AOp.isCall, AOp.isApp, AOp.isVal, AOp.isAl, Bool.false_eq_true, Bool.false_and, Bool.or_self, if_false, if_true] <;> rfl
theorem rs_bsl {hd : Bool} {base i : Nat} {os : List AOper} {st : St} {h : AH} {d : Option Nat} (k : Nat) (z : List AV) (ps : List (Nat × Nat × AX)) : runS hd base (⟨d, none, .bsl k z ps⟩ :: os) i (some (st, h)) = runS hd base os (i + 1) ((AOp.al (AX.val st) (base + i) (.bsl k z ps)).map fun p => (put d p.1 st, h.set (base + i) (.cells true p.2))) := rfl
theorem rg_bsl {hd : Bool} {base i : Nat} {os : List AOper} {st : St} {h : AH} {d : Option Nat} {s : Nat} {w : Bool} (k : Nat) (z : List AV) (ps : List (Nat × Nat × AX)) : runS hd base (⟨d, some (s, w), .bsl k z ps⟩ :: os) i (some (st, h)) = match guardOf (st.get s) w with
  | none => .bad
  | some g => runS hd base os (i + 1) (if g = true then (AOp.al (AX.val (stS g st)) (base + i) (.bsl k z ps)).map fun p => (put d (.gd g p.1) st, h.set (base + i) (.cells true p.2)) else some (put d (.gd g .un) st, h)) := by
  cases hq : guardOf (st.get s) w <;> simp only [runS, stepU, hq, runS_none, AOp.isCall, AOp.isApp, AOp.isVal, AOp.isAl, Bool.false_eq_true, Bool.false_and, Bool.or_self, if_false, if_true] <;> rfl
theorem rs_mks {hd : Bool} {base i : Nat} {os : List AOper} {st : St} {h : AH} {d : Option Nat} (k b : Nat) (z : List AV) (x y : AX) : runS hd base (⟨d, none, .mks k b z x y⟩ :: os) i (some (st, h)) = runS hd base os (i + 1) ((AOp.al (AX.val st) (base + i) (.mks k b z x y)).map fun p => (put d p.1 st, h.set (base + i) (.cells true p.2))) := rfl
theorem rg_mks {hd : Bool} {base i : Nat} {os : List AOper} {st : St} {h : AH} {d : Option Nat} {s : Nat} {w : Bool} (k b : Nat) (z : List AV) (x y : AX) : runS hd base (⟨d, some (s, w), .mks k b z x y⟩ :: os) i (some (st, h)) = match guardOf (st.get s) w with
  | none => .bad
  | some g => runS hd base os (i + 1) (if g = true then (AOp.al (AX.val (stS g st)) (base + i) (.mks k b z x y)).map fun p => (put d (.gd g p.1) st, h.set (base + i) (.cells true p.2)) else some (put d (.gd g .un) st, h)) := by
  cases hq : guardOf (st.get s) w <;> simp only [runS, stepU, hq, runS_none, AOp.isCall, AOp.isApp, AOp.isVal, AOp.isAl, Bool.false_eq_true, Bool.false_and, Bool.or_self, if_false, if_true] <;> rfl
theorem rs_sto {hd : Bool} {base i : Nat} {os : List AOper} {st : St} {h : AH} {d : Option Nat} (n : Option Nat) (x v : AX) : runS hd base (⟨d, none, .sto n x v⟩ :: os) i (some (st, h)) = runS hd base os (i + 1) ((h.sto n (x.val st) (v.val st)).map fun h' => (put d .un st, h')) := rfl
theorem rs_app {base i : Nat} {os : List AOper} {st : St} {h : AH} {d : Option Nat} (k b : Nat) (x y : AX) : runS false base (⟨d, none, .app k b x y⟩ :: os) i (some (st, h)) = runS false base os (i + 1) ((h.app k b (base + i) (x.val st) (y.val st)).map fun p => (put d p.1 st, p.2)) := rfl
theorem rs_call {hd : Bool} {base i : Nat} {os : List AOper} {st : St} {h : AH} {d : Option Nat} {g : Option (Nat × Bool)} (f : AX) (xs : List AX) : runS hd base (⟨d, g, .call f xs⟩ :: os) i (some (st, h)) = .call ⟨d, g, .call f xs⟩ os i st h := rfl
theorem rs_nil {hd : Bool} {base i : Nat} {st : St} {h : AH} : runS hd base [] i (some (st, h)) = .done st h := rfl
theorem rs_apph {base i : Nat} {os : List AOper} {st : St} {h : AH} {d : Option Nat} {g : Option (Nat × Bool)} (k b : Nat) (x y : AX) : runS true base (⟨d, g, .app k b x y⟩ :: os) i (some (st, h)) = .call ⟨d, g, .app k b x y⟩ os i st h := rfl
theorem rs_byt {hd : Bool} {base i : Nat} {os : List AOper} {st : St} {h : AH} {d : Option Nat} (x : AX) : runS hd base (⟨d, none, .byt x⟩ :: os) i (some (st, h)) = runS hd base os (i + 1) (stepA (base + i) d (.byt x) st h) := rfl
theorem rs_cvt {hd : Bool} {base i : Nat} {os : List AOper} {st : St} {h : AH} {d : Option Nat} (x : AX) : runS hd base (⟨d, none, .cvt x⟩ :: os) i (some (st, h)) = runS hd base os (i + 1) (stepA (base + i) d (.cvt x) st h) := rfl
theorem rs_mkm {hd : Bool} {base i : Nat} {os : List AOper} {st : St} {h : AH} {d : Option Nat} : runS hd base (⟨d, none, .mkm⟩ :: os) i (some (st, h)) = runS hd base os (i + 1) (stepA (base + i) d .mkm st h) := rfl
theorem rs_mup {hd : Bool} {base i : Nat} {os : List AOper} {st : St} {h : AH} {d : Option Nat} (kk : Option (List Nat)) (x k v : AX) : runS hd base (⟨d, none, .mup kk x k v⟩ :: os) i (some (st, h)) = runS hd base os (i + 1) (stepA (base + i) d (.mup kk x k v) st h) := rfl
theorem rg_cvt {hd : Bool} {base i : Nat} {os : List AOper} {st : St} {h : AH} {d : Option Nat} {s : Nat} {w : Bool} (x : AX) : runS hd base (⟨d, some (s, w), .cvt x⟩ :: os) i (some (st, h)) = match guardOf (st.get s) w with
  | none => .bad
  | some g => runS hd base os (i + 1) (if g = true then stepA (base + i) d (.cvt x) (stS true st) h else some (put d (.gd g .un) st, h)) := by
  cases hq : guardOf (st.get s) w <;> simp only [runS, stepU, hq, runS_none, AOp.isCall, AOp.isApp, AOp.isVal, AOp.isAl, Bool.false_eq_true, Bool.false_and, Bool.or_self, if_false, if_true] <;> rfl
theorem rg_sto {hd : Bool} {base i : Nat} {os : List AOper} {st : St} {h : AH} {d : Option Nat} {s : Nat} {w : Bool} (n : Option Nat) (x v : AX) : runS hd base (⟨d, some (s, w), .sto n x v⟩ :: os) i (some (st, h)) = match guardOf (st.get s) w with
  | none => .bad
  | some g => runS hd base os (i + 1) (if g = true then stepA (base + i) d (.sto n x v) (stS true st) h else some (put d (.gd g .un) st, h)) := by
  cases hq : guardOf (st.get s) w <;> simp only [runS, stepU, hq, runS_none, AOp.isCall, AOp.isApp, AOp.isVal, AOp.isAl, Bool.false_eq_true, Bool.false_and, Bool.or_self, if_false, if_true] <;> rfl
theorem rg_byt {hd : Bool} {base i : Nat} {os : List AOper} {st : St} {h : AH} {d : Option Nat} {s : Nat} {w : Bool} (x : AX) : runS hd base (⟨d, some (s, w), .byt x⟩ :: os) i (some (st, h)) = match guardOf (st.get s) w with
  | none => .bad
  | some g => runS hd base os (i + 1) (if g = true then stepA (base + i) d (.byt x) (stS true st) h else some (put d (.gd g .un) st, h)) := by
  cases hq : guardOf (st.get s) w <;> simp only [runS, stepU, hq, runS_none, AOp.isCall, AOp.isApp, AOp.isVal, AOp.isAl, Bool.false_eq_true, Bool.false_and, Bool.or_self, if_false, if_true] <;> rfl
theorem rg_mkm {hd : Bool} {base i : Nat} {os : List AOper} {st : St} {h : AH} {d : Option Nat} {s : Nat} {w : Bool}  : runS hd base (⟨d, some (s, w), .mkm ⟩ :: os) i (some (st, h)) = match guardOf (st.get s) w with
  | none => .bad
  | some g => runS hd base os (i + 1) (if g = true then stepA (base + i) d (.mkm ) (stS true st) h else some (put d (.gd g .un) st, h)) := by
  cases hq : guardOf (st.get s) w <;> simp only [runS, stepU, hq, runS_none, AOp.isCall, AOp.isApp, AOp.isVal, AOp.isAl, Bool.false_eq_true, Bool.false_and, Bool.or_self, if_false, if_true] <;> rfl
theorem rg_mup {hd : Bool} {base i : Nat} {os : List AOper} {st : St} {h : AH} {d : Option Nat} {s : Nat} {w : Bool} (kk : Option (List Nat)) (x k v : AX) : runS hd base (⟨d, some (s, w), .mup kk x k v⟩ :: os) i (some (st, h)) = match guardOf (st.get s) w with
  | none => .bad
  | some g => runS hd base os (i + 1) (if g = true then stepA (base + i) d (.mup kk x k v) (stS true st) h else some (put d (.gd g .un) st, h)) := by
  cases hq : guardOf (st.get s) w <;> simp only [runS, stepU, hq, runS_none, AOp.isCall, AOp.isApp, AOp.isVal, AOp.isAl, Bool.false_eq_true, Bool.false_and, Bool.or_self, if_false, if_true] <;> rfl
theorem rg_app {base i : Nat} {os : List AOper} {st : St} {h : AH} {d : Option Nat} {s : Nat} {w : Bool} (k b : Nat) (x y : AX) : runS false base (⟨d, some (s, w), .app k b x y⟩ :: os) i (some (st, h)) = match guardOf (st.get s) w with
  | none => .bad
  | some g => runS false base os (i + 1) (if g = true then stepA (base + i) d (.app k b x y) (stS true st) h else some (put d (.gd g .un) st, h)) := by
  cases hq : guardOf (st.get s) w <;> simp only [runS, stepU, hq, runS_none, AOp.isCall, AOp.isApp, AOp.isVal, AOp.isAl, Bool.false_eq_true, Bool.and_false, Bool.or_self, if_false, if_true] <;> rfl
theorem rs_eqz {hd : Bool} {base i : Nat} {os : List AOper} {st : St} {h : AH} {d : Option Nat} {g : Option (Nat × Bool)} (ng : Bool) (x : AX) : runS hd base (⟨d, g, .eqz ng x⟩ :: os) i (some (st, h)) = .call ⟨d, g, .eqz ng x⟩ os i st h := rfl
theorem al_box (ρ : AX → AV) (tok : Nat) (x : AX) : AOp.al ρ tok (.box x) = if (ρ x).known then some (.p tok 0, (ρ x).cells) else none := rfl
theorem al_alloc (ρ : AX → AV) (tok : Nat) (z : List AV) : AOp.al ρ tok (.alloc z) = some (.p tok 0, z) := rfl
theorem al_bsl (ρ : AX → AV) (tok k : Nat) (z : List AV) (ps : List (Nat × Nat × AX)) : AOp.al ρ tok (.bsl k z ps) = (afill ρ z ps).map fun cs => (if z.length = 0 then .sl 0 0 0 k else .sl tok 0 (if k = 0 then 0 else z.length / k) k, cs) := rfl
theorem al_mks (ρ : AX → AV) (tok k b : Nat) (z : List AV) (x y : AX) : AOp.al ρ tok (.mks k b z x y) = match ρ x, ρ y with
    | .i .i64 n, .i .i64 c => if 0 ≤ n ∧ n ≤ c ∧ c ≤ 281474976710656 ∧ b * c ≤ 281474976710656 then some (.sl tok 0 n.toNat k, (List.replicate n.toNat z).flatten) else none
    | _, _ => none := rfl
theorem sa_byt (tok : Nat) (d : Option Nat) (x : AX) (st : St) (h : AH) : stepA tok d (.byt x) st h = match x.val st with
    | .s b => some (put d (.sl tok 0 b.size 0) st, h.set tok (.frz (bcells b)))
    | _ => none := rfl
theorem set_row_frz (h : AH) (t : Nat) (cs : List AV) : (h.set t (.frz cs)).row t = some cs := by simp [AH.row, AH.set]
theorem read_set_frz (h : AH) (t : Nat) (cs : List AV) (o : Nat) (n : Option Nat) : (h.set t (.frz cs)).read t o n = rd cs o n := by simp [AH.read, AH.row, AH.set]
theorem sa_sto (tok : Nat) (d : Option Nat) (n : Option Nat) (x v : AX) (st : St) (h : AH) : stepA tok d (.sto n x v) st h = (h.sto n (x.val st) (v.val st)).map fun h' => (put d .un st, h') := rfl
theorem sa_app (tok : Nat) (d : Option Nat) (k b : Nat) (x y : AX) (st : St) (h : AH) : stepA tok d (.app k b x y) st h = (h.app k b tok (x.val st) (y.val st)).map fun p => (put d p.1 st, p.2) := rfl
theorem qpp_vs (h : AH) (k bytes tok t o n a m : Nat) (c2 : List AV) : h.qpp k bytes tok (.sl t o n a) (.vs m c2) = match h.elems k (.vs m c2) with
    | some ys => if t = 0 ∧ n = 0 ∧ ys.all AV.one ∧ k ≠ 0 ∧ n + m ≤ 140737488355328 ∧ (n + m) * bytes ≤ 140737488355328 then some (.sl tok 0 m k, ys) else none
    | none => none := by unfold AH.qpp; simp only [AV.sln]; cases h.elems k (.vs m c2) <;> rfl
theorem app_vs (h : AH) (k bytes tok t o n a m : Nat) (c2 : List AV) : h.app k bytes tok (.sl t o n a) (.vs m c2) = match h.elems k (.vs m c2) with
    | some ys =>
      if ys.all AV.one ∧ k ≠ 0 ∧ n + m ≤ 140737488355328 ∧ (n + m) * bytes ≤ 140737488355328 then
        if t = 0 then (if n = 0 then some (.sl tok 0 m k, h.set tok (.cells true ys)) else none)
        else match h.m t with
          | some (.cells true cs) => if a = k ∧ o + n * k = cs.length then some (.sl tok 0 (n + m) k, (h.kill t).set tok (.cells true (cs.drop o ++ ys))) else none
          | _ => none
      else none
    | none => none := by unfold AH.app; simp only [AV.sln]; cases h.elems k (.vs m c2) <;> rfl
theorem qpp_sl (h : AH) (k bytes tok t o n a t2 o2 m a2 : Nat) : h.qpp k bytes tok (.sl t o n a) (.sl t2 o2 m a2) = match h.elems k (.sl t2 o2 m a2) with
    | some ys => if t = 0 ∧ n = 0 ∧ ys.all AV.one ∧ k ≠ 0 ∧ n + m ≤ 140737488355328 ∧ (n + m) * bytes ≤ 140737488355328 then some (.sl tok 0 m k, ys) else none
    | none => none := by unfold AH.qpp; simp only [AV.sln]; cases h.elems k (.sl t2 o2 m a2) <;> rfl
theorem sa_mkm (tok : Nat) (d : Option Nat) (st : St) (h : AH) : stepA tok d .mkm st h = some (put d (.mp tok) st, h.set tok (.map [])) := rfl
theorem sa_mup (tok : Nat) (d : Option Nat) (kk : Option (List Nat)) (x k v : AX) (st : St) (h : AH) : stepA tok d (.mup kk x k v) st h = (h.mup kk (x.val st) (k.val st) (v.val st)).map fun h' => (put d .un st, h') := rfl
/-- a map's block looked up, written, counted -/
def mlkB (kk : Option (List Nat)) (z : AV) (ok : Bool) (k : AV) : Blk → Option AV
  | .map es => if kq kk k k = some true then (match mfind kk k es 0 with
        | some (some (_, v)) => some (if ok then .tu [v, .b true] else v)
        | some none => some (if ok then .tu [z, .b false] else z)
        | none => none) else none
  | _ => none
def mupB (kk : Option (List Nat)) (k v : AV) : Blk → Option Blk
  | .map es => if kq kk k k = some true then (mput kk k v es).map .map else none
  | _ => none
def mlnB : Blk → Option AV
  | .map es => some (.i .i64 es.length)
  | _ => none
theorem ev_mlk (ρ : AX → AV) (H : AH) (kk : Option (List Nat)) (z : AV) (ok : Bool) (x k : AX) : AOp.ev ρ H (.mlk kk z ok x k) = match ρ x with
    | .nilm => if kq kk (ρ k) (ρ k) = some true then some (if ok then .tu [z, .b false] else z) else none
    | .mp t => (H.m t).bind (mlkB kk z ok (ρ k))
    | _ => none := by
  simp only [AOp.ev]
  cases ρ x <;> simp only
  rename_i t
  rcases H.m t with _ | ⟨w, cs⟩ | cs | es <;> rfl
theorem ev_mln (ρ : AX → AV) (H : AH) (x : AX) : AOp.ev ρ H (.mln x) = match ρ x with
    | .nilm => some (.i .i64 0)
    | .mp t => (H.m t).bind mlnB
    | _ => none := by
  simp only [AOp.ev]
  cases ρ x <;> simp only
  rename_i t
  rcases H.m t with _ | ⟨w, cs⟩ | cs | es <;> rfl
theorem mup_mp (H : AH) (kk : Option (List Nat)) (t : Nat) (k v : AV) : H.mup kk (.mp t) k v = (H.m t).bind fun b => (mupB kk k v b).map (H.set t) := by
  simp only [AH.mup]
  rcases H.m t with _ | ⟨w, cs⟩ | cs | es <;> try rfl
  simp only [Option.bind_some, mupB]
  split
  · cases mput kk k v es <;> rfl
  · rfl
theorem bind_some {α β : Type} (f : α → Option β) (x : α) : (some x).bind f = f x := rfl
theorem sa_cvt (tok : Nat) (d : Option Nat) (x : AX) (st : St) (h : AH) : stepA tok d (.cvt x) st h = (h.cvt (x.val st)).map fun h' => (put d (x.val st) st, h') := rfl
theorem cvt_sl (h : AH) (t o n a : Nat) : h.cvt (.sl t o n a) = if n = 0 then none else match h.m t with
    | some (.cells true cs) => some (h.set t (.frz cs))
    | _ => none := rfl
theorem read_plus_same (hb h : AH) (t : Nat) (ts : List Nat) (o : Nat) (n : Option Nat) : (hb.plus h (t :: ts)).read t o n = h.read t o n := by simp [AH.read, AH.row, AH.plus]
theorem read_plus_ne {hb h : AH} {t s : Nat} (e : s ≠ t) (ts : List Nat) (o : Nat) (n : Option Nat) : (hb.plus h (t :: ts)).read s o n = (hb.plus h ts).read s o n := by simp [AH.read, AH.row, AH.plus, e]
theorem plus_nil (hb h : AH) : hb.plus h [] = hb := rfl
theorem firstTok_nil : firstTok [] = none := rfl
theorem firstTok_sl {t o n a : Nat} (h : n ≠ 0) (r : List AV) : firstTok (.sl t o n a :: r) = some t := by simp only [firstTok, if_neg h]
theorem firstTok_sl0 {t o a : Nat} (r : List AV) : firstTok (.sl t o 0 a :: r) = firstTok r := rfl
theorem firstTok_i (k : IntKind) (x : Int) (r : List AV) : firstTok (.i k x :: r) = firstTok r := rfl
theorem firstTok_b (x : Bool) (r : List AV) : firstTok (.b x :: r) = firstTok r := rfl
theorem firstTok_ag (x : List AV) (r : List AV) : firstTok (.ag x :: r) = firstTok r := rfl
theorem firstTok_vs (n : Nat) (cs : List AV) (r : List AV) : firstTok (.vs n cs :: r) = firstTok r := rfl
theorem firstTok_pv (cs : List AV) (o : Nat) (r : List AV) : firstTok (.pv cs o :: r) = firstTok r := rfl
theorem firstTok_p (t o : Nat) (r : List AV) : firstTok (.p t o :: r) = firstTok r := rfl
theorem firstTok_s (x : ByteArray) (r : List AV) : firstTok (.s x :: r) = firstTok r := rfl
theorem ev_eqa (ρ : AX → AV) (H : AH) (ng : Bool) (ks : List Nat) (x y : AX) : AOp.ev ρ H (.eqa ng ks x y) = match ρ x, ρ y with
    | .ag cs, .ag ds => (aeq ks cs ds).map fun b => .b (b != ng)
    | _, _ => none := rfl
theorem ev_eqs (ρ : AX → AV) (H : AH) (ng : Bool) (x y : AX) : AOp.ev ρ H (.eqs ng x y) = match ρ x, ρ y with
    | .s a, .s b => some (.b ((a.toList == b.toList) != ng))
    | _, _ => none := rfl
theorem ev_str (ρ : AX → AV) (H : AH) (x : AX) : AOp.ev ρ H (.str x) = match ρ x with
    | .sl t o n _ => if n = 0 then some (.s ByteArray.empty) else match H.row t with
      | some cs => if o + n ≤ cs.length then (abytes ((cs.drop o).take n)).map fun l => .s ⟨l.toArray⟩ else none
      | none => none
    | .vs n cs => if n = cs.length then (abytes cs).map fun l => .s ⟨l.toArray⟩ else none
    | _ => none := rfl
theorem ev_sl3 (ρ : AX → AV) (H : AH) (k : Nat) (x : AX) (lo : Option AX) (hi mx : AX) : AOp.ev ρ H (.sl3 k x lo hi mx) = match ρ x with
    | .sl t o n a => match bound ρ 0 lo, bound ρ n (some hi), bound ρ n (some mx) with
      | some l, some h, some m => if l ≤ h ∧ h ≤ m ∧ m ≤ n then (if m = l then some (.sl 0 0 0 0) else some (.sl t (o + l * k) (h - l) (if a = k then k else 0))) else none
      | _, _, _ => none
    | .vs n cs => match bound ρ 0 lo, bound ρ n (some hi), bound ρ n (some mx) with
      | some l, some h, some m => if l ≤ h ∧ h ≤ m ∧ m ≤ n ∧ m = l then some (.sl 0 0 0 0) else none
      | _, _, _ => none
    | _ => none := rfl
theorem aeq_n : aeq [] [] [] = some true := rfl
theorem aeq_ci (ks : List Nat) (k : IntKind) (a b : Int) (r s : List AV) : aeq (0 :: ks) (.i k a :: r) (.i k b :: s) = (aeq ks r s).map (decide (a = b) && ·) := by simp [aeq]
theorem aeq_cb (ks : List Nat) (a b : Bool) (r s : List AV) : aeq (1 :: ks) (.b a :: r) (.b b :: s) = (aeq ks r s).map ((a == b) && ·) := rfl
theorem aeq_cs (ks : List Nat) (a b : ByteArray) (r s : List AV) : aeq (2 :: ks) (.s a :: r) (.s b :: s) = (aeq ks r s).map ((a.toList == b.toList) && ·) := rfl
theorem val_t (st : St) (n : Nat) : AX.val st (.t n) = st.get n := rfl
theorem val_c (st : St) (v : AV) : AX.val st (.c v) = v := rfl
theorem get_cons (d : Nat) (v : AV) (r : St) (t : Nat) : St.get ((d, v) :: r) t = if t = d then v else St.get r t := rfl
theorem get_nil (t : Nat) : St.get [] t = .un := rfl
theorem put_some (d : Nat) (v : AV) (st : St) : put (some d) v st = (d, v) :: st := rfl
theorem put_none (v : AV) (st : St) : put none v st = st := rfl
theorem known_b (x : Bool) : AV.known (.b x) = true := rfl
theorem known_i (k : IntKind) (x : Int) : AV.known (.i k x) = true := rfl
theorem known_s (x : ByteArray) : AV.known (.s x) = true := rfl
theorem known_p (t o : Nat) : AV.known (.p t o) = true := rfl
theorem known_n : AV.known .nilp = true := rfl
theorem known_sl (t o n a : Nat) : AV.known (.sl t o n a) = true := rfl
theorem known_fn (f : Nat) (a b : List AV) : AV.known (.fn f a b) = true := rfl
theorem known_nf : AV.known .nilf = true := rfl
theorem known_mp (t : Nat) : AV.known (.mp t) = true := rfl
theorem known_nm : AV.known .nilm = true := rfl
theorem known_vs (n : Nat) (cs : List AV) : AV.known (.vs n cs) = true := rfl
theorem known_pv (cs : List AV) (o : Nat) : AV.known (.pv cs o) = true := rfl
theorem cells_vs (n : Nat) (cs : List AV) : AV.cells (.vs n cs) = [.vs n cs] := rfl
theorem cells_pv (cs : List AV) (o : Nat) : AV.cells (.pv cs o) = [.pv cs o] := rfl
theorem one_vs (n : Nat) (cs : List AV) : AV.one (.vs n cs) = true := rfl
theorem one_pv (cs : List AV) (o : Nat) : AV.one (.pv cs o) = true := rfl
theorem isNil_pv (cs : List AV) (o : Nat) : isNil (.pv cs o) = some false := rfl
theorem elems_vs (h : AH) (k m : Nat) (cs : List AV) : h.elems k (.vs m cs) = if m * k = cs.length then some cs else none := rfl
theorem known_ag (cs : List AV) : AV.known (.ag cs) = true := rfl
theorem known_tu (cs : List AV) : AV.known (.tu cs) = true := rfl
theorem cells_b (x : Bool) : AV.cells (.b x) = [.b x] := rfl
theorem cells_i (k : IntKind) (x : Int) : AV.cells (.i k x) = [.i k x] := rfl
theorem cells_s (x : ByteArray) : AV.cells (.s x) = [.s x] := rfl
theorem cells_p (t o : Nat) : AV.cells (.p t o) = [.p t o] := rfl
theorem cells_n : AV.cells .nilp = [.nilp] := rfl
theorem cells_sl (t o n a : Nat) : AV.cells (.sl t o n a) = [.sl t o n a] := rfl
theorem cells_fn (f : Nat) (a b : List AV) : AV.cells (.fn f a b) = [.fn f a b] := rfl
theorem cells_nf : AV.cells .nilf = [.nilf] := rfl
theorem cells_mp (t : Nat) : AV.cells (.mp t) = [.mp t] := rfl
theorem cells_nm : AV.cells .nilm = [.nilm] := rfl
theorem cells_ag (cs : List AV) : AV.cells (.ag cs) = cs := rfl
theorem one_b (x : Bool) : AV.one (.b x) = true := rfl
theorem one_i (k : IntKind) (x : Int) : AV.one (.i k x) = true := rfl
theorem one_s (x : ByteArray) : AV.one (.s x) = true := rfl
theorem one_p (t o : Nat) : AV.one (.p t o) = true := rfl
theorem one_n : AV.one .nilp = true := rfl
theorem one_sl (t o n a : Nat) : AV.one (.sl t o n a) = true := rfl
theorem one_fn (f : Nat) (a b : List AV) : AV.one (.fn f a b) = true := rfl
theorem one_nf : AV.one .nilf = true := rfl
theorem one_mp (t : Nat) : AV.one (.mp t) = true := rfl
theorem one_nm : AV.one .nilm = true := rfl
theorem rd_none (cs : List AV) (o : Nat) : rd cs o none = cs[o]? := rfl
theorem rd_some (x : AV) (cs : List AV) (o n : Nat) : rd (x :: cs) o (some n) = if o + n ≤ (x :: cs).length then some (.ag (((x :: cs).drop o).take n)) else none := rfl
theorem wrt_none (cs : List AV) (o : Nat) (x : AV) : wrt cs o x none = if x.one ∧ o < cs.length then some (cs.set o x) else none := rfl
theorem wrt_some (cs : List AV) (o n : Nat) (x : AV) : wrt cs o x (some n) = if x.known ∧ x.cells.all AV.one ∧ x.cells.length = n ∧ o + n ≤ cs.length then some (cs.take o ++ (x.cells ++ cs.drop (o + n))) else none := rfl
theorem abin_i (bt : Bool) (op : BinOp) (k : IntKind) (a b : Int) : abin bt op (.i k a) (.i k b) = aint op k a b := by simp [abin]
theorem abin_shl (bt : Bool) (k k' : IntKind) (a b : Int) : abin bt .shl (.i k a) (.i k' b) = aint .shl k a b := by simp [abin]
theorem abin_shr (bt : Bool) (k k' : IntKind) (a b : Int) : abin bt .shr (.i k a) (.i k' b) = aint .shr k a b := by simp [abin]
theorem abin_beq (a b : Bool) : abin true .eql (.b a) (.b b) = some (.b (a == b)) := rfl
theorem abin_bne (a b : Bool) : abin true .neq (.b a) (.b b) = some (.b (a != b)) := rfl
theorem aint_add (k : IntKind) (x y : Int) : aint .add k x y = some (.i k (k.wrap (x + y))) := rfl
theorem aint_sub (k : IntKind) (x y : Int) : aint .sub k x y = some (.i k (k.wrap (x - y))) := rfl
theorem aint_mul (k : IntKind) (x y : Int) : aint .mul k x y = some (.i k (k.wrap (x * y))) := rfl
theorem aint_quo (k : IntKind) (x y : Int) : aint .quo k x y = if y = 0 then none else some (.i k (k.wrap (x.tdiv y))) := rfl
theorem aint_rem (k : IntKind) (x y : Int) : aint .rem k x y = if y = 0 then none else some (.i k (x.tmod y)) := rfl
theorem aint_and (k : IntKind) (x y : Int) : aint .and k x y = some (.i k (abits .and k x y)) := rfl
theorem aint_or (k : IntKind) (x y : Int) : aint .or k x y = some (.i k (abits .or k x y)) := rfl
theorem aint_xor (k : IntKind) (x y : Int) : aint .xor k x y = some (.i k (abits .xor k x y)) := rfl
theorem aint_andNot (k : IntKind) (x y : Int) : aint .andNot k x y = some (.i k (abits .andNot k x y)) := rfl
theorem aint_shl (k : IntKind) (x y : Int) : aint .shl k x y = if 0 ≤ y then some (.i k (k.wrap (x * 2 ^ (min y.toNat k.bits)))) else none := rfl
theorem aint_shr (k : IntKind) (x y : Int) : aint .shr k x y = if 0 ≤ y then some (.i k (x.fdiv (2 ^ (min y.toNat k.bits)))) else none := rfl
theorem aint_eql (k : IntKind) (x y : Int) : aint .eql k x y = some (.b (decide (x = y))) := rfl
theorem aint_neq (k : IntKind) (x y : Int) : aint .neq k x y = some (.b (!decide (x = y))) := rfl
theorem aint_lss (k : IntKind) (x y : Int) : aint .lss k x y = some (.b (decide (x < y))) := rfl
theorem aint_leq (k : IntKind) (x y : Int) : aint .leq k x y = some (.b (decide (x ≤ y))) := rfl
theorem aint_gtr (k : IntKind) (x y : Int) : aint .gtr k x y = some (.b (decide (y < x))) := rfl
theorem aint_geq (k : IntKind) (x y : Int) : aint .geq k x y = some (.b (decide (y ≤ x))) := rfl
theorem isNil_n : isNil .nilp = some true := rfl
theorem isNil_p (t o : Nat) : isNil (.p t o) = some false := rfl
theorem bound_none (ρ : AX → AV) (d : Nat) : bound ρ d none = some d := rfl
theorem bound_some (ρ : AX → AV) (d : Nat) (x : AX) : bound ρ d (some x) = match ρ x with
    | .i _ n => if 0 ≤ n then some n.toNat else none
    | _ => none := rfl
theorem afill_nil (ρ : AX → AV) (cs : List AV) : afill ρ cs [] = some cs := rfl
theorem afill_cons (ρ : AX → AV) (cs : List AV) (off n : Nat) (x : AX) (r : List (Nat × Nat × AX)) : afill ρ cs ((off, n, x) :: r) = if (ρ x).known ∧ (ρ x).cells.length = n ∧ off + n ≤ cs.length then afill ρ (cs.take off ++ ((ρ x).cells ++ cs.drop (off + n))) r else none := rfl
theorem sto_p (h : AH) (n : Option Nat) (t o : Nat) (v : AV) : h.sto n (.p t o) v = match h.m t with
    | some (.cells true cs) => (wrt cs o v n).map fun cs' => h.set t (.cells true cs')
    | _ => none := rfl
theorem elems_sl (h : AH) (k t o m a : Nat) : h.elems k (.sl t o m a) = if m = 0 then some [] else match h.row t with
    | some cs => if o + m * k ≤ cs.length then some ((cs.drop o).take (m * k)) else none
    | none => none := rfl
theorem app_sl (h : AH) (k bytes tok t o n a t2 o2 m a2 : Nat) : h.app k bytes tok (.sl t o n a) (.sl t2 o2 m a2) = match h.elems k (.sl t2 o2 m a2) with
    | some ys =>
      if ys.all AV.one ∧ k ≠ 0 ∧ n + m ≤ 140737488355328 ∧ (n + m) * bytes ≤ 140737488355328 then
        if t = 0 then (if n = 0 then some (.sl tok 0 m k, h.set tok (.cells true ys)) else none)
        else match h.m t with
          | some (.cells true cs) => if a = k ∧ o + n * k = cs.length then some (.sl tok 0 (n + m) k, (h.kill t).set tok (.cells true (cs.drop o ++ ys))) else none
          | _ => none
      else none
    | none => none := by unfold AH.app; simp only [AV.sln]; cases h.elems k (.sl t2 o2 m a2) <;> rfl
theorem amm_nil (mx : Bool) (v : AV) : amm mx v [] = some v := by unfold amm; rfl
theorem amm_max (k : IntKind) (x y : Int) (r : List AV) : amm true (.i k x) (.i k y :: r) = amm true (.i k (max x y)) r := by
  simp only [amm, if_true]; congr 1; congr 1; simp only [Int.max_def]; split <;> split <;> omega
theorem amm_min (k : IntKind) (x y : Int) (r : List AV) : amm false (.i k x) (.i k y :: r) = amm false (.i k (min x y)) r := by
  simp only [amm, if_true, Bool.false_eq_true, if_false]; congr 1; congr 1; simp only [Int.min_def]; split <;> split <;> omega
theorem guard_gt (g b : Bool) : guardOf (.gd g (.b b)) true = some (g && b) := by cases g <;> cases b <;> rfl
theorem guard_gf (g b : Bool) : guardOf (.gd g (.b b)) false = some (g && !b) := by cases g <;> cases b <;> rfl
theorem guard_gff (v : AV) (want : Bool) : guardOf (.gd false v) want = some false := by cases v <;> rfl
theorem strip_and (g b : Bool) (v : AV) : strip (g && b) (.gd g v) = v := by cases g <;> cases b <;> rfl
theorem strip_nest (g x y : Bool) : strip x (strip g (.gd (g && x) (.b y))) = .b y := by cases g <;> cases x <;> rfl
theorem strip_nest2 (g x y : Bool) : strip (!x) (strip g (.gd (g && !x) (.b y))) = .b y := by cases g <;> cases x <;> rfl
theorem strip_nest3 (g x : Bool) (k : IntKind) (y : Int) : strip x (strip g (.gd (g && x) (.i k y))) = .i k y := by cases g <;> cases x <;> rfl
theorem strip_nest4 (g x : Bool) (k : IntKind) (y : Int) : strip (!x) (strip g (.gd (g && !x) (.i k y))) = .i k y := by cases g <;> cases x <;> rfl
theorem strip_two_b (g x : Bool) (y : Bool) : strip x (strip g (.gd x (.b y))) = .b y := by cases g <;> cases x <;> rfl
theorem strip_two_i (g x : Bool) (k : IntKind) (y : Int) : strip x (strip g (.gd x (.i k y))) = .i k y := by cases g <;> cases x <;> rfl
theorem strip_two_p (g x : Bool) (t o : Nat) : strip x (strip g (.gd x (.p t o))) = .p t o := by cases g <;> cases x <;> rfl
theorem strip_two_pv (g x : Bool) (cs : List AV) (o : Nat) : strip x (strip g (.gd x (.pv cs o))) = .pv cs o := by cases g <;> cases x <;> rfl
theorem strip_two_sl (g x : Bool) (t o n a : Nat) : strip x (strip g (.gd x (.sl t o n a))) = .sl t o n a := by cases g <;> cases x <;> rfl
theorem strip_two_vs (g x : Bool) (n : Nat) (cs : List AV) : strip x (strip g (.gd x (.vs n cs))) = .vs n cs := by cases g <;> cases x <;> rfl
theorem strip_two_ag (g x : Bool) (cs : List AV) : strip x (strip g (.gd x (.ag cs))) = .ag cs := by cases g <;> cases x <;> rfl
theorem strip_tt (v : AV) : strip true (.gd true v) = v := rfl
theorem wrapu8 {n : Int} (h1 : 0 ≤ n) (h2 : n ≤ 255) : IntKind.u8.wrap n = n := IntWalk.u8_in n ⟨h1, h2⟩
theorem wrapu64 {n : Int} (h1 : 0 ≤ n) (h2 : n ≤ 18446744073709551615) : IntKind.u64.wrap n = n := IntWalk.u64_in n ⟨h1, h2⟩
theorem getD_some (v w : AV) : (some v).getD w = v := rfl
theorem ite_same {α : Type} (p : Prop) [Decidable p] (x : α) : (if p then x else x) = x := by split <;> rfl
theorem map_some {α β : Type} (f : α → β) (x : α) : (some x).map f = some (f x) := rfl
theorem map_none {α β : Type} (f : α → β) : (none : Option α).map f = none := rfl
theorem lm_nil {α β : Type} (f : α → β) : [].map f = [] := rfl
theorem lm_cons {α β : Type} (f : α → β) (x : α) (xs : List α) : (x :: xs).map f = f x :: xs.map f := rfl
theorem wrap_cond (k : IntKind) (p : Prop) [Decidable p] (x y : Int) : k.wrap (if p then x else y) = if p then k.wrap x else k.wrap y := by split <;> rfl
theorem EV0 : (type_of% @rs_mv) ∧ (type_of% @rg_mv) ∧ (type_of% @rs_pick) ∧ (type_of% @rg_pick) ∧ (type_of% @rs_bin) ∧ (type_of% @rg_bin) ∧ (type_of% @rs_neg) ∧ (type_of% @rg_neg) ∧ (type_of% @rs_not) ∧ (type_of% @rg_not) ∧ (type_of% @rs_conv) ∧ (type_of% @rg_conv) ∧ (type_of% @rs_ext) ∧ (type_of% @rg_ext) ∧ (type_of% @rs_fa) ∧ (type_of% @rg_fa) ∧ (type_of% @rs_fld) ∧ (type_of% @rg_fld) ∧ (type_of% @rs_ia) ∧ (type_of% @rg_ia) ∧ (type_of% @rs_iap) ∧ (type_of% @rg_iap) ∧ (type_of% @rs_iv) ∧ (type_of% @rg_iv) ∧ (type_of% @rs_sli) ∧ (type_of% @rg_sli) ∧ (type_of% @rs_slp) ∧ (type_of% @rg_slp) ∧ (type_of% @rs_nck) ∧ (type_of% @rg_nck) ∧ (type_of% @rs_bld) ∧ (type_of% @rg_bld) ∧ (type_of% @rs_len) ∧ (type_of% @rg_len) ∧ (type_of% @rs_mm) ∧ (type_of% @rg_mm) ∧ (type_of% @rs_mkf) ∧ (type_of% @rg_mkf) ∧ (type_of% @rs_eqn) ∧ (type_of% @rg_eqn) := ⟨@rs_mv, @rg_mv, @rs_pick, @rg_pick, @rs_bin, @rg_bin, @rs_neg, @rg_neg, @rs_not, @rg_not, @rs_conv, @rg_conv, @rs_ext, @rg_ext, @rs_fa, @rg_fa, @rs_fld, @rg_fld, @rs_ia, @rg_ia, @rs_iap, @rg_iap, @rs_iv, @rg_iv, @rs_sli, @rg_sli, @rs_slp, @rg_slp, @rs_nck, @rg_nck, @rs_bld, @rg_bld, @rs_len, @rg_len, @rs_mm, @rg_mm, @rs_mkf, @rg_mkf, @rs_eqn, @rg_eqn⟩
theorem EV1 : (type_of% @rs_eqa) ∧ (type_of% @rg_eqa) ∧ (type_of% @rs_eqs) ∧ (type_of% @rg_eqs) ∧ (type_of% @rs_str) ∧ (type_of% @rg_str) ∧ (type_of% @rs_sl3) ∧ (type_of% @rg_sl3) ∧ (type_of% @rs_ld) ∧ (type_of% @rg_ld) ∧ (type_of% @rs_mlk) ∧ (type_of% @rg_mlk) ∧ (type_of% @rs_mln) ∧ (type_of% @rg_mln) ∧ (type_of% @rs_box) ∧ (type_of% @rg_box) ∧ (type_of% @rs_alloc) ∧ (type_of% @rg_alloc) ∧ (type_of% @rs_bsl) ∧ (type_of% @rg_bsl) ∧ (type_of% @rs_mks) ∧ (type_of% @rg_mks) ∧ (type_of% @rs_cvt) ∧ (type_of% @rs_mkm) ∧ (type_of% @rs_mup) ∧ (type_of% @rg_cvt) ∧ (type_of% @rg_sto) ∧ (type_of% @rg_byt) ∧ (type_of% @rg_mkm) ∧ (type_of% @rg_mup) ∧ (type_of% @rs_eqz) ∧ (type_of% @rs_sto) ∧ (type_of% @rs_app) ∧ (type_of% @rs_call) ∧ (type_of% @rs_nil) ∧ (type_of% @rs_apph) ∧ (type_of% @rs_byt) ∧ (type_of% @rg_app) ∧ (type_of% @al_box) ∧ (type_of% @al_alloc) := ⟨@rs_eqa, @rg_eqa, @rs_eqs, @rg_eqs, @rs_str, @rg_str, @rs_sl3, @rg_sl3, @rs_ld, @rg_ld, @rs_mlk, @rg_mlk, @rs_mln, @rg_mln, @rs_box, @rg_box, @rs_alloc, @rg_alloc, @rs_bsl, @rg_bsl, @rs_mks, @rg_mks, @rs_cvt, @rs_mkm, @rs_mup, @rg_cvt, @rg_sto, @rg_byt, @rg_mkm, @rg_mup, @rs_eqz, @rs_sto, @rs_app, @rs_call, @rs_nil, @rs_apph, @rs_byt, @rg_app, @al_box, @al_alloc⟩
theorem EV2 : (type_of% @al_bsl) ∧ (type_of% @al_mks) ∧ (type_of% @sa_byt) ∧ (type_of% @set_row_frz) ∧ (type_of% @read_set_frz) ∧ (type_of% @sa_sto) ∧ (type_of% @sa_app) ∧ (type_of% @qpp_vs) ∧ (type_of% @app_vs) ∧ (type_of% @qpp_sl) ∧ (type_of% @sa_mkm) ∧ (type_of% @sa_mup) ∧ (type_of% @ev_mlk) ∧ (type_of% @ev_mln) ∧ (type_of% @mup_mp) ∧ (type_of% @sa_cvt) ∧ (type_of% @cvt_sl) ∧ (type_of% @read_plus_same) ∧ (type_of% @read_plus_ne) ∧ (type_of% @plus_nil) ∧ (type_of% @firstTok_nil) ∧ (type_of% @firstTok_sl) ∧ (type_of% @firstTok_sl0) ∧ (type_of% @firstTok_i) ∧ (type_of% @firstTok_b) ∧ (type_of% @firstTok_ag) ∧ (type_of% @firstTok_vs) ∧ (type_of% @firstTok_pv) ∧ (type_of% @firstTok_p) ∧ (type_of% @firstTok_s) ∧ (type_of% @ev_eqa) ∧ (type_of% @ev_eqs) ∧ (type_of% @ev_str) ∧ (type_of% @ev_sl3) ∧ (type_of% @aeq_n) ∧ (type_of% @aeq_ci) ∧ (type_of% @aeq_cb) ∧ (type_of% @aeq_cs) ∧ (type_of% @val_t) ∧ (type_of% @val_c) := ⟨@al_bsl, @al_mks, @sa_byt, @set_row_frz, @read_set_frz, @sa_sto, @sa_app, @qpp_vs, @app_vs, @qpp_sl, @sa_mkm, @sa_mup, @ev_mlk, @ev_mln, @mup_mp, @sa_cvt, @cvt_sl, @read_plus_same, @read_plus_ne, @plus_nil, @firstTok_nil, @firstTok_sl, @firstTok_sl0, @firstTok_i, @firstTok_b, @firstTok_ag, @firstTok_vs, @firstTok_pv, @firstTok_p, @firstTok_s, @ev_eqa, @ev_eqs, @ev_str, @ev_sl3, @aeq_n, @aeq_ci, @aeq_cb, @aeq_cs, @val_t, @val_c⟩
theorem EV3 : (type_of% @get_cons) ∧ (type_of% @get_nil) ∧ (type_of% @put_some) ∧ (type_of% @put_none) ∧ (type_of% @known_b) ∧ (type_of% @known_i) ∧ (type_of% @known_s) ∧ (type_of% @known_p) ∧ (type_of% @known_n) ∧ (type_of% @known_sl) ∧ (type_of% @known_fn) ∧ (type_of% @known_nf) ∧ (type_of% @known_mp) ∧ (type_of% @known_nm) ∧ (type_of% @known_vs) ∧ (type_of% @known_pv) ∧ (type_of% @cells_vs) ∧ (type_of% @cells_pv) ∧ (type_of% @one_vs) ∧ (type_of% @one_pv) ∧ (type_of% @isNil_pv) ∧ (type_of% @elems_vs) ∧ (type_of% @known_ag) ∧ (type_of% @known_tu) ∧ (type_of% @cells_b) ∧ (type_of% @cells_i) ∧ (type_of% @cells_s) ∧ (type_of% @cells_p) ∧ (type_of% @cells_n) ∧ (type_of% @cells_sl) ∧ (type_of% @cells_fn) ∧ (type_of% @cells_nf) ∧ (type_of% @cells_mp) ∧ (type_of% @cells_nm) ∧ (type_of% @cells_ag) ∧ (type_of% @one_b) ∧ (type_of% @one_i) ∧ (type_of% @one_s) ∧ (type_of% @one_p) ∧ (type_of% @one_n) := ⟨@get_cons, @get_nil, @put_some, @put_none, @known_b, @known_i, @known_s, @known_p, @known_n, @known_sl, @known_fn, @known_nf, @known_mp, @known_nm, @known_vs, @known_pv, @cells_vs, @cells_pv, @one_vs, @one_pv, @isNil_pv, @elems_vs, @known_ag, @known_tu, @cells_b, @cells_i, @cells_s, @cells_p, @cells_n, @cells_sl, @cells_fn, @cells_nf, @cells_mp, @cells_nm, @cells_ag, @one_b, @one_i, @one_s, @one_p, @one_n⟩
theorem EV4 : (type_of% @one_sl) ∧ (type_of% @one_fn) ∧ (type_of% @one_nf) ∧ (type_of% @one_mp) ∧ (type_of% @one_nm) ∧ (type_of% @rd_none) ∧ (type_of% @rd_some) ∧ (type_of% @wrt_none) ∧ (type_of% @wrt_some) ∧ (type_of% @abin_i) ∧ (type_of% @abin_shl) ∧ (type_of% @abin_shr) ∧ (type_of% @abin_beq) ∧ (type_of% @abin_bne) ∧ (type_of% @aint_add) ∧ (type_of% @aint_sub) ∧ (type_of% @aint_mul) ∧ (type_of% @aint_quo) ∧ (type_of% @aint_rem) ∧ (type_of% @aint_and) ∧ (type_of% @aint_or) ∧ (type_of% @aint_xor) ∧ (type_of% @aint_andNot) ∧ (type_of% @aint_shl) ∧ (type_of% @aint_shr) ∧ (type_of% @aint_eql) ∧ (type_of% @aint_neq) ∧ (type_of% @aint_lss) ∧ (type_of% @aint_leq) ∧ (type_of% @aint_gtr) ∧ (type_of% @aint_geq) ∧ (type_of% @isNil_n) ∧ (type_of% @isNil_p) ∧ (type_of% @bound_none) ∧ (type_of% @bound_some) ∧ (type_of% @afill_nil) ∧ (type_of% @afill_cons) ∧ (type_of% @sto_p) ∧ (type_of% @elems_sl) ∧ (type_of% @app_sl) := ⟨@one_sl, @one_fn, @one_nf, @one_mp, @one_nm, @rd_none, @rd_some, @wrt_none, @wrt_some, @abin_i, @abin_shl, @abin_shr, @abin_beq, @abin_bne, @aint_add, @aint_sub, @aint_mul, @aint_quo, @aint_rem, @aint_and, @aint_or, @aint_xor, @aint_andNot, @aint_shl, @aint_shr, @aint_eql, @aint_neq, @aint_lss, @aint_leq, @aint_gtr, @aint_geq, @isNil_n, @isNil_p, @bound_none, @bound_some, @afill_nil, @afill_cons, @sto_p, @elems_sl, @app_sl⟩
theorem EV5 : (type_of% @amm_nil) ∧ (type_of% @amm_max) ∧ (type_of% @amm_min) ∧ (type_of% @guard_gt) ∧ (type_of% @guard_gf) ∧ (type_of% @guard_gff) ∧ (type_of% @strip_and) ∧ (type_of% @strip_nest) ∧ (type_of% @strip_nest2) ∧ (type_of% @strip_nest3) ∧ (type_of% @strip_nest4) ∧ (type_of% @strip_two_b) ∧ (type_of% @strip_two_i) ∧ (type_of% @strip_two_p) ∧ (type_of% @strip_two_pv) ∧ (type_of% @strip_two_sl) ∧ (type_of% @strip_two_vs) ∧ (type_of% @strip_two_ag) ∧ (type_of% @strip_tt) ∧ (type_of% @bind_some) ∧ (type_of% @wrapu8) ∧ (type_of% @wrapu64) ∧ (type_of% @getD_some) ∧ (type_of% @ite_same) ∧ (type_of% @map_some) ∧ (type_of% @map_none) ∧ (type_of% @lm_nil) ∧ (type_of% @lm_cons) ∧ (type_of% @ev_ld) ∧ (type_of% @ev_pick) ∧ (type_of% @ev_neg) ∧ (type_of% @ev_not) ∧ (type_of% @ev_conv) ∧ (type_of% @ev_ext) ∧ (type_of% @ev_fa) ∧ (type_of% @ev_fld) ∧ (type_of% @ev_ia) ∧ (type_of% @ev_iap) ∧ (type_of% @ev_iv) ∧ (type_of% @ev_sli) := ⟨@amm_nil, @amm_max, @amm_min, @guard_gt, @guard_gf, @guard_gff, @strip_and, @strip_nest, @strip_nest2, @strip_nest3, @strip_nest4, @strip_two_b, @strip_two_i, @strip_two_p, @strip_two_pv, @strip_two_sl, @strip_two_vs, @strip_two_ag, @strip_tt, @bind_some, @wrapu8, @wrapu64, @getD_some, @ite_same, @map_some, @map_none, @lm_nil, @lm_cons, @ev_ld, @ev_pick, @ev_neg, @ev_not, @ev_conv, @ev_ext, @ev_fa, @ev_fld, @ev_ia, @ev_iap, @ev_iv, @ev_sli⟩
theorem EV6 : (type_of% @ev_slp) ∧ (type_of% @ev_nck) ∧ (type_of% @ev_bld) ∧ (type_of% @ev_len) ∧ (type_of% @ev_eqn) ∧ (type_of% @AH.bump_nx) ∧ (type_of% @AH.set_nx) ∧ (type_of% @read_bump) ∧ (type_of% @read_set_same) ∧ (type_of% @read_set_ne) ∧ (type_of% @guard_t) ∧ (type_of% @guard_f) ∧ (type_of% @stS_get) ∧ (type_of% @strip_self) ∧ (type_of% @strip_b) ∧ (type_of% @strip_i) ∧ (type_of% @strip_p) ∧ (type_of% @strip_sl) ∧ (type_of% @strip_ag) ∧ (type_of% @strip_tu) ∧ (type_of% @strip_vs) ∧ (type_of% @strip_pv) ∧ (type_of% @vsub_nn) ∧ (type_of% @vsub_sn) ∧ (type_of% @vsub_ns) ∧ (type_of% @vsub_ss) ∧ (type_of% @strip_n) ∧ (type_of% @strip_s) ∧ (type_of% @strip_fn) ∧ (type_of% @strip_mp) ∧ (type_of% @strip_nm) ∧ (type_of% @strip_nf) ∧ (type_of% @pick_and) ∧ (type_of% @pick_or) ∧ (type_of% @apick_t) ∧ (type_of% @apick_f) ∧ (type_of% @AH.set_m_same) ∧ (type_of% @AH.set_m_ne) ∧ (type_of% @AH.bump_m) ∧ (type_of% @AH.kill_m_ne) := ⟨@ev_slp, @ev_nck, @ev_bld, @ev_len, @ev_eqn, @AH.bump_nx, @AH.set_nx, @read_bump, @read_set_same, @read_set_ne, @guard_t, @guard_f, @stS_get, @strip_self, @strip_b, @strip_i, @strip_p, @strip_sl, @strip_ag, @strip_tu, @strip_vs, @strip_pv, @vsub_nn, @vsub_sn, @vsub_ns, @vsub_ss, @strip_n, @strip_s, @strip_fn, @strip_mp, @strip_nm, @strip_nf, @pick_and, @pick_or, @apick_t, @apick_f, @AH.set_m_same, @AH.set_m_ne, @AH.bump_m, @AH.kill_m_ne⟩
theorem EV7 : (type_of% @AH.set_row_same) ∧ (type_of% @AH.set_row_ne) ∧ (type_of% @AH.bump_row) ∧ (type_of% @AH.kill_row_ne) ∧ (type_of% @AH.kill_nx) ∧ (type_of% @read_kill_ne) ∧ (type_of% @cl_len) ∧ (type_of% @cl_get) ∧ (type_of% @cl_take) ∧ (type_of% @cl_drop) ∧ (type_of% @cl_set_i) ∧ (type_of% @cl_app_i) ∧ (type_of% @cl_snoc_i) ∧ (type_of% @cons_cl_i) ∧ (type_of% @cl_set_b) ∧ (type_of% @cl_app_b) ∧ (type_of% @cl_snoc_b) ∧ (type_of% @cons_cl_b) ∧ (type_of% @cl_one_i) ∧ (type_of% @cl_one_b) ∧ (type_of% @toNat_cast) ∧ (type_of% @toNat_succ) ∧ (type_of% @wrap64) ∧ (type_of% @Bool.false_eq_true) ∧ (type_of% @Nat.add_zero) ∧ (type_of% @Nat.zero_add) ∧ (type_of% @List.length_cons.{0}) ∧ (type_of% @List.length_nil.{0}) ∧ (type_of% @List.getElem?_cons_zero.{0}) ∧ (type_of% @List.getElem?_cons_succ.{0}) ∧ (type_of% @or_false) ∧ (type_of% @or_true) ∧ (type_of% @and_true) ∧ (type_of% @true_and) ∧ (type_of% @and_self) ∧ (type_of% @not_true_eq_false) ∧ (type_of% @not_false_eq_true) ∧ (type_of% @Bool.not_true) ∧ (type_of% @Bool.not_false) ∧ (type_of% @Bool.or_true) := ⟨@AH.set_row_same, @AH.set_row_ne, @AH.bump_row, @AH.kill_row_ne, @AH.kill_nx, @read_kill_ne, @cl_len, @cl_get, @cl_take, @cl_drop, @cl_set_i, @cl_app_i, @cl_snoc_i, @cons_cl_i, @cl_set_b, @cl_app_b, @cl_snoc_b, @cons_cl_b, @cl_one_i, @cl_one_b, @toNat_cast, @toNat_succ, @wrap64, @Bool.false_eq_true, @Nat.add_zero, @Nat.zero_add, @List.length_cons.{0}, @List.length_nil.{0}, @List.getElem?_cons_zero.{0}, @List.getElem?_cons_succ.{0}, @or_false, @or_true, @and_true, @true_and, @and_self, @not_true_eq_false, @not_false_eq_true, @Bool.not_true, @Bool.not_false, @Bool.or_true⟩
theorem EV8 : (type_of% @Bool.true_or) ∧ (type_of% @Bool.or_false) ∧ (type_of% @Bool.false_or) ∧ (type_of% @Bool.or_self) ∧ (type_of% @Bool.not_or_self) ∧ (type_of% @Bool.or_not_self) ∧ (type_of% @beq_self_eq_true.{0}) ∧ (type_of% @beq_true) ∧ (type_of% @beq_false) ∧ (type_of% @List.drop_succ_cons.{0}) ∧ (type_of% @List.drop_zero.{0}) ∧ (type_of% @List.take_succ_cons.{0}) ∧ (type_of% @List.take_zero.{0}) ∧ (type_of% @List.drop_nil.{0}) ∧ (type_of% @List.take_nil.{0}) ∧ (type_of% @List.cons_append.{0}) ∧ (type_of% @List.nil_append.{0}) ∧ (type_of% @List.append_nil.{0}) ∧ (type_of% @List.all_cons.{0}) ∧ (type_of% @List.all_nil.{0}) ∧ (type_of% @Bool.and_true) ∧ (type_of% @Bool.true_and) ∧ (type_of% @Bool.and_self) ∧ (type_of% @Bool.and_false) ∧ (type_of% @Bool.false_and) ∧ (type_of% @Nat.mul_one) ∧ (type_of% @Nat.sub_zero) ∧ (type_of% @Nat.sub_self) ∧ (type_of% @Int.toNat_natCast) ∧ (type_of% @ne_eq.{1}) ∧ (type_of% @if_pos.{1}) ∧ (type_of% @if_neg.{1}) ∧ (type_of% @Bool.not_not) ∧ (type_of% @Bool.bne_true) ∧ (type_of% @Bool.bne_false) ∧ (type_of% @List.set_cons_zero.{0}) ∧ (type_of% @List.set_cons_succ.{0}) := ⟨@Bool.true_or, @Bool.or_false, @Bool.false_or, @Bool.or_self, @Bool.not_or_self, @Bool.or_not_self, @beq_self_eq_true.{0}, @beq_true, @beq_false, @List.drop_succ_cons.{0}, @List.drop_zero.{0}, @List.take_succ_cons.{0}, @List.take_zero.{0}, @List.drop_nil.{0}, @List.take_nil.{0}, @List.cons_append.{0}, @List.nil_append.{0}, @List.append_nil.{0}, @List.all_cons.{0}, @List.all_nil.{0}, @Bool.and_true, @Bool.true_and, @Bool.and_self, @Bool.and_false, @Bool.false_and, @Nat.mul_one, @Nat.sub_zero, @Nat.sub_self, @Int.toNat_natCast, @ne_eq.{1}, @if_pos.{1}, @if_neg.{1}, @Bool.not_not, @Bool.bne_true, @Bool.bne_false, @List.set_cons_zero.{0}, @List.set_cons_succ.{0}⟩
theorem GA : (type_of% @val_t) ∧ (type_of% @val_c) ∧ (type_of% @get_cons) ∧ (type_of% @get_nil) := ⟨@val_t, @val_c, @get_cons, @get_nil⟩
theorem CA : (type_of% @val_t) ∧ (type_of% @val_c) ∧ (type_of% @get_cons) ∧ (type_of% @get_nil) ∧ (type_of% @lm_cons) ∧ (type_of% @lm_nil) ∧ (type_of% @List.nil_append.{0}) ∧ (type_of% @List.cons_append.{0}) ∧ (type_of% @List.append_nil.{0}) ∧ (type_of% @stS_get) ∧ (type_of% @strip_self) ∧ (type_of% @strip_b) ∧ (type_of% @strip_i) ∧ (type_of% @strip_p) ∧ (type_of% @strip_sl) ∧ (type_of% @strip_ag) ∧ (type_of% @strip_tu) ∧ (type_of% @strip_vs) ∧ (type_of% @strip_pv) ∧ (type_of% @strip_n) ∧ (type_of% @strip_s) ∧ (type_of% @strip_fn) ∧ (type_of% @strip_mp) ∧ (type_of% @guard_t) ∧ (type_of% @guard_f) ∧ (type_of% @guard_gt) ∧ (type_of% @guard_gf) ∧ (type_of% @guard_gff) ∧ (type_of% @Bool.true_and) ∧ (type_of% @Bool.not_true) ∧ (type_of% @Bool.not_false) ∧ (type_of% @Bool.not_not) ∧ (type_of% @strip_and) ∧ (type_of% @strip_tt) ∧ (type_of% @strip_nest) ∧ (type_of% @strip_nest2) ∧ (type_of% @strip_nest3) ∧ (type_of% @strip_nest4) ∧ (type_of% @strip_two_b) ∧ (type_of% @strip_two_i) ∧ (type_of% @strip_two_p) ∧ (type_of% @strip_two_pv) ∧ (type_of% @strip_two_sl) ∧ (type_of% @strip_two_vs) ∧ (type_of% @strip_two_ag) := ⟨@val_t, @val_c, @get_cons, @get_nil, @lm_cons, @lm_nil, @List.nil_append.{0}, @List.cons_append.{0}, @List.append_nil.{0}, @stS_get, @strip_self, @strip_b, @strip_i, @strip_p, @strip_sl, @strip_ag, @strip_tu, @strip_vs, @strip_pv, @strip_n, @strip_s, @strip_fn, @strip_mp, @guard_t, @guard_f, @guard_gt, @guard_gf, @guard_gff, @Bool.true_and, @Bool.not_true, @Bool.not_false, @Bool.not_not, @strip_and, @strip_tt, @strip_nest, @strip_nest2, @strip_nest3, @strip_nest4, @strip_two_b, @strip_two_i, @strip_two_p, @strip_two_pv, @strip_two_sl, @strip_two_vs, @strip_two_ag⟩
theorem BO : (type_of% @decide_eq_true_eq) ∧ (type_of% @Bool.or_eq_true) ∧ (type_of% @Bool.and_eq_true) ∧ (type_of% @Bool.not_eq_true') ∧ (type_of% @decide_eq_false_iff_not) ∧ (type_of% @Bool.not_not) ∧ (type_of% @Bool.not_or) ∧ (type_of% @Bool.not_and) ∧ (type_of% @not_or) ∧ (type_of% @not_and) ∧ (type_of% @Int.not_lt) ∧ (type_of% @Int.not_le) ∧ (type_of% @Bool.not_eq_eq_eq_not) ∧ (type_of% @Bool.not_true) ∧ (type_of% @Bool.not_false) ∧ (type_of% @bne_iff_ne.{0}) ∧ (type_of% @beq_iff_eq.{0}) ∧ (type_of% @ne_eq.{1}) := ⟨@decide_eq_true_eq, @Bool.or_eq_true, @Bool.and_eq_true, @Bool.not_eq_true', @decide_eq_false_iff_not, @Bool.not_not, @Bool.not_or, @Bool.not_and, @not_or, @not_and, @Int.not_lt, @Int.not_le, @Bool.not_eq_eq_eq_not, @Bool.not_true, @Bool.not_false, @bne_iff_ne.{0}, @beq_iff_eq.{0}, @ne_eq.{1}⟩
end Go.Am
set_option linter.unusedVariables false
set_option linter.unusedSimpArgs false
namespace Go.Am
variable {dfs : List Deferred}
mutual
/-- a value, with what lies in t (cells cs) az a value of its own -/
inductive FrzV (t : Nat) (cs : List AV) : AV → AV → Prop
  | same {v : AV} : FrzV t cs v v
  | un {v : AV} : FrzV t cs v .un
  | sl {o n k a : Nat} (h : o + n * k ≤ cs.length) : FrzV t cs (.sl t o n a) (.vs n ((cs.drop o).take (n * k)))
  | nil {o a : Nat} : FrzV t cs (.sl 0 o 0 a) (.vs 0 [])
  | p {o : Nat} : FrzV t cs (.p t o) (.pv cs o)
  | tu {vs ws : List AV} (h : FrzVs t cs vs ws) : FrzV t cs (.tu vs) (.tu ws)
  | ag {vs ws : List AV} (h : FrzVs t cs vs ws) : FrzV t cs (.ag vs) (.ag ws)
  | fn {f : Nat} {az bs as' bs' : List AV} (h : FrzVs t cs az as') (h' : FrzVs t cs bs bs') : FrzV t cs (.fn f az bs) (.fn f as' bs')
inductive FrzVs (t : Nat) (cs : List AV) : List AV → List AV → Prop
  | nil : FrzVs t cs [] []
  | cons {v w : AV} {vs ws : List AV} (h : FrzV t cs v w) (hs : FrzVs t cs vs ws) : FrzVs t cs (v :: vs) (w :: ws)
end
/-- where t lies, or that it has no cells -/
def FrzAt (ι ι' : Inj) (t : Nat) (cs : List AV) : Prop :=
  ι 0 = none ∧ ((ι t = none ∧ cs = []) ∨ ∃ l xs, ι t = some l ∧ ι'.φ l.b = some xs ∧ Lies ι cs xs l.sh)
mutual
theorem FrzV.rel {ι ι' : Inj} (le : ι.le ι') {t : Nat} {cs : List AV} (F : FrzAt ι ι' t cs) : ∀ {v w : AV} {u : Value}, FrzV t cs v w → VRel ι v u → VRel ι' w u
  | _, _, _, .same, r => r.mono le
  | _, _, _, .un, r => by simp [VRel]
  | _, _, _, @FrzV.sl _ _ o n k a h, r => by
    simp only [VRel] at r ⊢
    rcases r with ⟨h0, x, rfl⟩ | ⟨l, cap, hl, rfl, hc, _⟩
    · exact .inl ⟨h0, x, rfl⟩
    · rcases F.2 with ⟨hn, _⟩ | ⟨l', xs, hl', hp, hr⟩
      · rw [hl] at hn; cases hn
      · rw [hl] at hl'; cases hl'
        exact .inr ⟨l.b, l.sh + o, cap, xs, rfl, hc, hp, VRels.mono le (Lies.take (Lies.drop hr o) _)⟩
  | _, _, _, .nil, r => by
    simp only [VRel] at r ⊢
    rcases r with ⟨h0, x, rfl⟩ | ⟨l, cap, hl, _⟩
    · exact .inl ⟨by trivial, x, rfl⟩
    · rw [F.1] at hl; cases hl
  | _, _, _, @FrzV.p _ _ o, r => by
    simp only [VRel] at r ⊢
    obtain ⟨l, hl, rfl⟩ := r
    rcases F.2 with ⟨hn, _⟩ | ⟨l', xs, hl', hp, hr⟩
    · rw [hl] at hn; cases hn
    · rw [hl] at hl'; cases hl'
      exact ⟨l.b, l.sh, xs, rfl, hp, VRels.mono le hr⟩
  | _, _, _, .tu h, r => by simp only [VRel] at r ⊢; obtain ⟨x, hx, r⟩ := r; exact ⟨x, hx, FrzVs.rel le F h r⟩
  | _, _, _, .ag h, r => by simp only [VRel] at r ⊢; obtain ⟨x, hx, r⟩ := r; exact ⟨x, hx, FrzVs.rel le F h r⟩
  | _, _, _, .fn h h', r => by simp only [VRel] at r ⊢; obtain ⟨x, y, hx, r1, r2⟩ := r; exact ⟨x, y, hx, FrzVs.rel le F h r1, FrzVs.rel le F h' r2⟩
theorem FrzVs.rel {ι ι' : Inj} (le : ι.le ι') {t : Nat} {cs : List AV} (F : FrzAt ι ι' t cs) : ∀ {vs ws : List AV} {us : List Value}, FrzVs t cs vs ws → VRels ι vs us → VRels ι' ws us
  | _, _, _, .nil, r => by simpa only [VRels] using r
  | _, _, _, .cons h hs, r => by
    simp only [VRels] at r ⊢
    obtain ⟨u, us, rfl, r1, r2⟩ := r
    exact ⟨u, us, rfl, FrzV.rel le F h r1, FrzVs.rel le F hs r2⟩
end
theorem FrzVs.length {t : Nat} {cs : List AV} : ∀ {vs ws : List AV}, FrzVs t cs vs ws → vs.length = ws.length
  | _, _, .nil => rfl
  | _, _, .cons _ hs => by simp [FrzVs.length hs]
theorem FrzVs.get {t : Nat} {cs : List AV} : ∀ {vs ws : List AV}, FrzVs t cs vs ws → ∀ {i : Nat} {w : AV}, ws[i]? = some w → ∃ v, vs[i]? = some v ∧ FrzV t cs v w
  | _, _, .nil, i, w, h => by simp at h
  | _, _, .cons h hs, 0, w, e => by simp at e; subst e; exact ⟨_, rfl, h⟩
  | _, _, .cons h hs, i + 1, w, e => by simp at e; simpa using FrzVs.get hs e
/-- a heap without t: other rows hold az before, or with t's cells az values -/
structure FrzH (t : Nat) (cs : List AV) (h h1 : AH) : Prop where
  nx : h1.nx = h.nx
  m : ∀ s c, h1.m s = some c → s ≠ t ∧ (h.m s = some c ∨ ∃ w ds ds', h.m s = some (.cells w ds) ∧ c = .cells w ds' ∧ FrzVs t cs ds ds')
theorem FrzH.kill (t : Nat) (cs : List AV) (h : AH) : FrzH t cs h (h.kill t) := ⟨rfl, fun s c hs => by
  unfold AH.kill at hs
  by_cases e : s = t
  · simp [e] at hs
  · simp only [if_neg e] at hs; exact ⟨e, .inl hs⟩⟩
theorem FrzH.set {t s : Nat} {cs : List AV} {h h1 : AH} (F : FrzH t cs h h1) (hne : s ≠ t) {w : Bool} {ds ds' : List AV} (hs : h.m s = some (.cells w ds)) (hd : FrzVs t cs ds ds') : FrzH t cs h (h1.set s (.cells w ds')) := ⟨F.nx, fun s' c hs' => by
  unfold AH.set at hs'
  by_cases e : s' = s
  · subst e
    simp only [if_true, Option.some.injEq] at hs'
    exact ⟨hne, .inr ⟨w, ds, ds', hs, hs'.symm, hd⟩⟩
  · simp only [if_neg e] at hs'; exact F.m s' c hs'⟩
theorem frz_wr {c c0 : Blk} {t : Nat} {cs : List AV} (h : c0 = c ∨ ∃ w ds ds', c0 = .cells w ds ∧ c = .cells w ds' ∧ FrzVs t cs ds ds') : c0.wr = c.wr := by
  rcases h with rfl | ⟨w, ds, ds', rfl, rfl, _⟩ <;> rfl
/-- THE STEP: t is never written again. -/
theorem frz_world {ι : Inj} {h h1 : AH} {w : World} {t : Nat} {cs : List AV} (r : WRel ι h w) (hm : h.m t = some (.cells true cs)) (F : FrzH t cs h h1) :
    ∃ ι', ι.le ι' ∧ FrzAt ι ι' t cs ∧ WRel ι' h1 w ∧ Ext ι h w ι' h1 w := by
  have old : ∀ s c, h1.m s = some c → ∃ c0, h.m s = some c0 ∧ c0.wr = c.wr ∧ s ≠ t := fun s c hs => by
    obtain ⟨hne, q | ⟨w, ds, ds', q1, q2, _⟩⟩ := F.m s c hs
    · exact ⟨c, q, rfl, hne⟩
    · exact ⟨_, q1, by rw [q2]; rfl, hne⟩
  have key : ∃ ι' : Inj, ι.le ι' ∧ ι'.f = ι.f ∧ FrzAt ι ι' t cs ∧ WRel ι' (h.kill t) w ∧ Ext ι h w ι' (h.kill t) w := by
    cases hl : ι t with
    | none =>
      have hb := (r.blk t _ hm).2
      simp only [BRel] at hb
      rcases hb with ⟨rfl, _⟩ | ⟨l, _, _, _, h1, _⟩
      · exact ⟨ι, Inj.le_refl _, rfl, ⟨r.nil, .inl ⟨hl, rfl⟩⟩, r.drop (h.kill_le t), (Ext.refl ι h w).drop (h.kill_le t)⟩
      · rw [hl] at h1; cases h1
    | some l =>
      obtain ⟨xs, hp, _, hr, _, h2, h3⟩ := r.freeze hm hl
      exact ⟨ι.fr l.b xs, Inj.le_fr hp, rfl, ⟨r.nil, .inr ⟨l, xs, hl, by simp [Inj.fr], hr⟩⟩, h2, h3 (Ext.refl ι h w)⟩
  obtain ⟨ι', le, hf, FA, wr, ex⟩ := key
  have hkm : ∀ s c, h.m s = some c → s ≠ t → (h.kill t).m s = some c := fun s c hs hne => by simp [AH.kill, hne, hs]
  refine ⟨ι', le, FA, ⟨fun s l hs => by rw [F.nx]; exact wr.lt s l hs, fun s c hs => ?_, fun s s' l l' c c' h1 h2 h3 h4 h5 h6 => ?_, by rw [F.nx]; exact wr.pos, wr.nil, fun b xs hb => ⟨(wr.phi b xs hb).1, fun s c l hs hc hl => ?_⟩⟩,
    ⟨by rw [F.nx]; exact ex.nx, ex.old, ex.os, ex.tape, ex.output, ex.size, ex.keep, fun s c l hs hc hl => ?_, ex.phi, ex.new, ex.drawn⟩⟩
  · obtain ⟨hne, q | ⟨wb, ds, ds', q1, q2, q3⟩⟩ := F.m s c hs
    · rw [F.nx]; exact wr.blk s c (hkm s c q hne)
    · rw [F.nx]
      refine ⟨(wr.blk s _ (hkm s _ q1 hne)).1, ?_⟩
      have hb := (r.blk s _ q1).2
      subst q2
      simp only [BRel] at hb ⊢
      have hfs : ι' s = ι s := by rw [hf]
      rcases hb with ⟨rfl, hn⟩ | ⟨l, vs, e, fz, h1, h2, h3, h4, h5, h6⟩
      · have : ds' = [] := List.length_eq_zero_iff.1 q3.length.symm
        exact .inl ⟨this, by rw [hfs]; exact hn⟩
      · refine .inr ⟨l, vs, e, fz, by rw [hfs]; exact h1, h2, h3, by rw [← q3.length]; exact h4, h5, fun i a ha => ?_⟩
        obtain ⟨v, hv, hvv⟩ := q3.get ha
        obtain ⟨u, hu, hr⟩ := h6 i v hv
        exact ⟨u, hu, FrzV.rel le FA hvv hr⟩
  · obtain ⟨c0, q1, q2, q3⟩ := old s c h1
    obtain ⟨c0', q4, q5, q6⟩ := old s' c' h2
    exact wr.inj s s' l l' c0 c0' (hkm _ _ q1 q3) (hkm _ _ q4 q6) h3 h4 h5 (by rw [q2, q5]; exact h6)
  · obtain ⟨c0, q1, q2, q3⟩ := old s c hs
    exact (wr.phi b xs hb).2 s c0 l (hkm _ _ q1 q3) (q2.trans hc) hl
  · obtain ⟨c0, q1, q2, q3⟩ := old s c hs
    exact ex.img s c0 l (hkm _ _ q1 q3) (q2.trans hc) hl
/-- nil slices in a row, az values -/
theorem zero_world {ι : Inj} {h : AH} {w : World} {s : Nat} {wr : Bool} {ds ds' : List AV} (r : WRel ι h w) (hm : h.m s = some (.cells wr ds)) (hd : FrzVs 0 [] ds ds') :
    WRel ι (h.set s (.cells wr ds')) w ∧ Ext ι h w ι (h.set s (.cells wr ds')) w := by
  have old : ∀ t c, (h.set s (.cells wr ds')).m t = some c → ∃ c0, h.m t = some c0 ∧ c0.wr = c.wr := fun t c hc => by
    unfold AH.set at hc
    by_cases e : t = s
    · subst e; simp only [if_true, Option.some.injEq] at hc; exact ⟨_, hm, by rw [← hc]; rfl⟩
    · simp only [if_neg e] at hc; exact ⟨c, hc, rfl⟩
  have FA : FrzAt ι ι 0 [] := ⟨r.nil, .inl ⟨r.nil, rfl⟩⟩
  refine ⟨⟨r.lt, fun t c hc => ?_, fun t t' l l' c c' h1 h2 h3 h4 h5 h6 => ?_, r.pos, r.nil, fun b xs hb => ⟨(r.phi b xs hb).1, fun t c l hc hw hl => ?_⟩⟩, ⟨Nat.le_refl _, fun _ _ => rfl, rfl, rfl, rfl, Nat.le_refl _, fun _ _ _ => rfl, fun t c l hc hw hl => ?_, fun _ _ x => x, fun _ _ x => .inl x, Nat.le_refl _⟩⟩
  · unfold AH.set at hc
    by_cases e : t = s
    · subst e
      simp only [if_true, Option.some.injEq] at hc
      subst hc
      refine ⟨(r.blk t _ hm).1, ?_⟩
      have hb := (r.blk t _ hm).2
      simp only [BRel] at hb ⊢
      rcases hb with ⟨rfl, hn⟩ | ⟨l, vs, e, fz, h1, h2, h3, h4, h5, h6⟩
      · exact .inl ⟨List.length_eq_zero_iff.1 hd.length.symm, hn⟩
      · refine .inr ⟨l, vs, e, fz, h1, h2, h3, by rw [← hd.length]; exact h4, h5, fun i a ha => ?_⟩
        obtain ⟨v, hv, hvv⟩ := hd.get ha
        obtain ⟨u, hu, hr⟩ := h6 i v hv
        exact ⟨u, hu, FrzV.rel (Inj.le_refl ι) FA hvv hr⟩
    · simp only [if_neg e] at hc
      exact r.blk t c hc
  · obtain ⟨c0, q1, q2⟩ := old t c h1
    obtain ⟨c0', q3, q4⟩ := old t' c' h2
    exact r.inj t t' l l' c0 c0' q1 q3 h3 h4 h5 (by rw [q2, q4]; exact h6)
  · obtain ⟨c0, q1, q2⟩ := old t c hc
    exact (r.phi b xs hb).2 t c0 l q1 (q2.trans hw) hl
  · obtain ⟨c0, q1, q2⟩ := old t c hc
    exact .inr ⟨t, c0, l, q1, q2.trans hw, hl, rfl⟩
/-- the same of results -/
inductive FrzR : AH → AV → AH → AV → Prop
  | done {h : AH} {r : AV} : FrzR h r h r
  | step {h h1 h2 : AH} {t : Nat} {cs : List AV} {r r1 r2 : AV} (hm : h.m t = some (.cells true cs)) (F : FrzH t cs h h1) (hv : FrzV t cs r r1) (rest : FrzR h1 r1 h2 r2) : FrzR h r h2 r2
  | zero {h h2 : AH} {r r1 r2 : AV} (hv : FrzV 0 [] r r1) (rest : FrzR h r1 h2 r2) : FrzR h r h2 r2
  | zeroH {h h2 : AH} {s : Nat} {wr : Bool} {ds ds' : List AV} {r r2 : AV} (hm : h.m s = some (.cells wr ds)) (hd : FrzVs 0 [] ds ds') (rest : FrzR (h.set s (.cells wr ds')) r h2 r2) : FrzR h r h2 r2
theorem FrzR.world {h h2 : AH} {r r2 : AV} (F : FrzR h r h2 r2) : ∀ {ι : Inj} {w : World} {u : Value}, WRel ι h w → VRel ι r u → ∃ ι', VRel ι' r2 u ∧ WRel ι' h2 w ∧ Ext ι h w ι' h2 w := by
  induction F with
  | done => intro ι w u wr hr; exact ⟨ι, hr, wr, .refl _ _ _⟩
  | step hm F hv rest ih =>
    intro ι w u wr hr
    obtain ⟨ι1, le, FA, wr1, ex1⟩ := frz_world wr hm F
    obtain ⟨ι2, h1, h2, h3⟩ := ih wr1 (FrzV.rel le FA hv hr)
    exact ⟨ι2, h1, h2, ex1.trans h3⟩
  | zero hv rest ih =>
    intro ι w u wr hr
    exact ih wr (FrzV.rel (Inj.le_refl ι) ⟨wr.nil, .inl ⟨wr.nil, rfl⟩⟩ hv hr)
  | zeroH hm hd rest ih =>
    intro ι w u wr hr
    obtain ⟨q1, q2⟩ := zero_world wr hm hd
    obtain ⟨ι2, h1, h2, h3⟩ := ih q1 hr
    exact ⟨ι2, h1, h2, q2.trans h3⟩
theorem acalls_frz {P : Program} {f : Nat} {args : List AV} {h : AH} {R : AV → AH → Prop} (c : ACalls P f args h fun r h' => ∃ r' h'', FrzR h' r h'' r' ∧ R r' h'') : ACalls P f args h R :=
  ⟨c.1, fun ι w vs wr hv => Calls.mono (c.2 ι w vs wr hv) fun e w' he => by
    obtain ⟨v, r, h', ι', rfl, ⟨r', h'', F, hR⟩, h1, h2, h3⟩ := he
    obtain ⟨ι2, q1, q2, q3⟩ := F.world h2 h1
    exact ⟨v, r', h'', ι2, rfl, hR, q1, q2, h3.trans q3⟩⟩
section
variable {P : Program} {N : Nat} {Q : Exit → St → AH → Prop} {st st' : St} {h h' : AH}
/-- ahead of a piece of code: what lies in t is a value from here on -/
theorem w_frzH {c : AC} {t : Nat} {cs : List AV} (hm : h.m t = some (.cells true cs)) (F : FrzH t cs h h') (hst : ∀ d, FrzV t cs (st.get d) (st'.get d)) (w : W P N c Q st' h') : W P N c Q st h := fun c' hc dfs ι a wd ar wr => by
  obtain ⟨ι', le, FA, wr', ex⟩ := frz_world wr hm F
  refine wp_mono (w c' hc dfs ι' a wd ⟨ar.size, ar.defs, fun d => FrzV.rel le FA (hst d) (ar.slot d)⟩ wr') fun e a' w' l => ?_
  obtain ⟨st'', h'', ι'', q, ar', wr'', x⟩ := l
  exact ⟨st'', h'', ι'', q, ar', wr'', ex.trans x⟩
theorem w_frz {c : AC} {t : Nat} {cs : List AV} (hm : h.m t = some (.cells true cs)) (hst : ∀ d, FrzV t cs (st.get d) (st'.get d)) (w : W P N c Q st' (h.kill t)) : W P N c Q st h := w_frzH hm (FrzH.kill t cs h) hst w
/-- nil slices in a row, az values from here on -/
theorem w_zero {c : AC} {s : Nat} {wr : Bool} {ds ds' : List AV} (hm : h.m s = some (.cells wr ds)) (hd : FrzVs 0 [] ds ds') (w : W P N c Q st (h.set s (.cells wr ds'))) : W P N c Q st h := fun c' hc dfs ι a wd ar wr => by
  obtain ⟨q1, q2⟩ := zero_world wr hm hd
  refine wp_mono (w c' hc dfs ι a wd ar q1) fun e a' w' l => ?_
  obtain ⟨st'', h'', ι'', q, ar', wr'', x⟩ := l
  exact ⟨st'', h'', ι'', q, ar', wr'', q2.trans x⟩
theorem w_frz0 {c : AC} (hst : ∀ d, FrzV 0 [] (st.get d) (st'.get d)) (w : W P N c Q st' h) : W P N c Q st h := fun c' hc dfs ι a wd ar wr =>
  w c' hc dfs ι a wd ⟨ar.size, ar.defs, fun d => FrzV.rel (Inj.le_refl ι) ⟨wr.nil, .inl ⟨wr.nil, rfl⟩⟩ (hst d) (ar.slot d)⟩ wr
/-- a nil slice gets a row of its own (with no cells), to be appended to like any other -/
theorem w_virt {c : AC} (k d : Nat) (hd : st.get d = .sl 0 0 0 0) (w : W P N c Q ((d, .sl h.nx 0 0 k) :: st) ((h.bump 1).set h.nx (.cells true []))) : W P N c Q st h := fun c' hc dfs ι a wd ar wr => by
  have hn : ι h.nx = none := by
    cases hq : ι h.nx with
    | none => rfl
    | some l => have := (wr.lt _ l hq).1; omega
  have hm1 : ∀ s c, ((h.bump 1).set h.nx (.cells true [])).m s = some c → (s = h.nx ∧ c = .cells true []) ∨ h.m s = some c := fun s c hs => by
    unfold AH.set at hs
    by_cases e : s = h.nx
    · subst e; simp only [if_true, Option.some.injEq] at hs; exact .inl ⟨rfl, hs.symm⟩
    · simp only [if_neg e] at hs; exact .inr hs
  have wr' : WRel ι ((h.bump 1).set h.nx (.cells true [])) wd := by
    refine ⟨fun t l hl => ⟨by have := (wr.lt t l hl).1; show t < h.nx + 1; omega, (wr.lt t l hl).2⟩, fun t c hc => ?_, fun t t' l l' c c' h1 h2 h3 h4 h5 h6 => ?_, Nat.succ_pos _, wr.nil, fun b xs hb => ⟨(wr.phi b xs hb).1, fun t c l hc hw hl => ?_⟩⟩
    · rcases hm1 t c hc with ⟨rfl, rfl⟩ | hc
      · exact ⟨by show h.nx < h.nx + 1; omega, .inl ⟨rfl, hn⟩⟩
      · exact ⟨by have := (wr.blk t c hc).1; show t < h.nx + 1; omega, (wr.blk t c hc).2⟩
    · rcases hm1 t c h1 with ⟨rfl, rfl⟩ | h1
      · rw [hn] at h3; cases h3
      rcases hm1 t' c' h2 with ⟨rfl, rfl⟩ | h2
      · rw [hn] at h4; cases h4
      exact wr.inj t t' l l' c c' h1 h2 h3 h4 h5 h6
    · rcases hm1 t c hc with ⟨rfl, rfl⟩ | hc
      · rw [hn] at hl; cases hl
      · exact (wr.phi b xs hb).2 t c l hc hw hl
  have ex : Ext ι h wd ι ((h.bump 1).set h.nx (.cells true [])) wd := by
    refine ⟨Nat.le_succ _, fun _ _ => rfl, rfl, rfl, rfl, Nat.le_refl _, fun _ _ _ => rfl, fun t c l hc hw hl => ?_, fun _ _ x => x, fun _ _ x => .inl x, Nat.le_refl _⟩
    rcases hm1 t c hc with ⟨rfl, rfl⟩ | hc
    · rw [hn] at hl; cases hl
    · exact .inr ⟨t, c, l, hc, hw, hl, rfl⟩
  have ar' : ARel N dfs ι ((d, .sl h.nx 0 0 k) :: st) a := ⟨ar.size, ar.defs, fun s => by
    simp only [St.get]
    by_cases e : s = d
    · subst e
      rw [if_pos rfl]
      have := ar.slot s
      rw [hd] at this
      simp only [VRel] at this ⊢
      rcases this with ⟨_, x, hx⟩ | ⟨l, cap, hl, _⟩
      · exact .inl ⟨by trivial, x, hx⟩
      · rw [wr.nil] at hl; cases hl
    · rw [if_neg e]; exact ar.slot s⟩
  refine wp_mono (w c' hc dfs ι a wd ar' wr') fun e a' w' l => ?_
  obtain ⟨st'', h'', ι'', q, ar'', wr'', x⟩ := l
  exact ⟨st'', h'', ι'', q, ar'', wr'', ex.trans x⟩
end
/-! ### Calls of values -/
/-- called with such values the function yields that value, and leaves everything az it was -/
abbrev PC (P : Program) (f : Nat) (args : List AV) (v : AV) : Prop := ∀ h, ACalls P f args h fun r h' => r = v ∧ h' = h
/-- the heap in which a call of values is reckoned -/
def H1 : AH := ⟨fun _ => none, 1⟩
theorem H1_nx : H1.nx = 1 := rfl
theorem H1_m (t : Nat) : H1.m t = none := rfl
/-- what is owed at the end: the value, once what it holds is never written again -/
def Ends (v : AV) (r : AV) (h : AH) : Prop := ∃ h', FrzR h r h' v
theorem pc_fn {P : Program} {f : Nat} {ac : AC} {ars : List ARes} {N : Nat} (hf : fnOf P f = some (ac, ars, N)) {args : List AV} {v : AV} (ha : AV.plains args = true) (hv : v.plain = true) (hN : args.length ≤ N)
    (hw : W P N ac (athen (Post ars (Ends v)) (Fin (Post ars (Ends v)))) (initSt args) H1) : PC P f args v := fun h =>
  empty_call (R := fun r => r = v) ha (acalls_frz ((a_fn hf hN fun _ _ => hw).mono fun r h' ⟨h'', F⟩ => ⟨v, h'', F, rfl⟩)) (fun r e => by rw [e]; exact hv) h
theorem ends_of {v : AV} {h : AH} : Ends v v h := ⟨h, .done⟩
/-- a result that is a new slice -/
theorem ends_sl {t n k : Nat} {cs : List AV} {h : AH} {a : Nat} (hm : h.m t = some (.cells true cs)) (hl : n * k = cs.length) : Ends (.vs n cs) (.sl t 0 n a) h :=
  ⟨_, .step hm (FrzH.kill _ _ _) (by
    have := @FrzV.sl t cs 0 n k a (by omega)
    rwa [List.drop_zero, hl, List.take_length] at this) .done⟩
theorem ends_nil {a : Nat} {h : AH} : Ends (.vs 0 []) (.sl 0 0 0 a) h := ⟨h, .zero .nil .done⟩
/-- .. and a number beside it -/
theorem ends_sl2 {t n k : Nat} {cs : List AV} {h : AH} {a : Nat} {x : AV} (hm : h.m t = some (.cells true cs)) (hl : n * k = cs.length) : Ends (.tu [.vs n cs, x]) (.tu [.sl t 0 n a, x]) h :=
  ⟨_, .step hm (FrzH.kill _ _ _) (.tu (.cons (by
    have := @FrzV.sl t cs 0 n k a (by omega)
    rwa [List.drop_zero, hl, List.take_length] at this) (.cons .same .nil))) .done⟩
theorem ends_nil2 {a : Nat} {h : AH} {x : AV} : Ends (.tu [.vs 0 [], x]) (.tu [.sl 0 0 0 a, x]) h := ⟨h, .zero (.tu (.cons .nil (.cons .same .nil))) .done⟩
theorem WRel.h1 {w : World} {φ : Nat → Option (Array Value)} (hφ : ∀ b xs, φ b = some xs → ∃ e fz, w.heap[b]? = some (.cells xs e fz)) : WRel ⟨fun _ => none, φ⟩ H1 w where
  lt t l h := by cases h
  blk t c h := by cases h
  inj t t' l l' c c' h := by cases h
  pos := Nat.zero_lt_one
  nil := rfl
  phi b xs hb := ⟨hφ b xs hb, fun t c l hc => by cases hc⟩
/-- A law of values. -/
theorem law_pc {P : Program} {f : Nat} {az : List AV} {vs : Array Value} {w : World} {φ : Nat → Option (Array Value)} (hφ : ∀ b xs, φ b = some xs → ∃ e fz, w.heap[b]? = some (.cells xs e fz)) (hv : VRels ⟨fun _ => none, φ⟩ az vs.toList) (c : PC P f az (.b true)) :
    Calls P f vs w fun e w' => e = .returned (.bool true) ∧ RowKit.Below w.heap.size w w' := by
  refine Calls.mono ((c H1).2 ⟨fun _ => none, φ⟩ w vs (WRel.h1 hφ) hv) fun e w' he => ?_
  obtain ⟨v, r, h', ι', rfl, ⟨rfl, rfl⟩, h1, h2, h3⟩ := he
  simp only [VRel] at h1
  subst h1
  exact ⟨rfl, ⟨h3.os, h3.tape, h3.output, h3.size, fun b hb => h3.keep b hb fun t c l hm => by cases hm⟩⟩
end Go.Am
set_option linter.unusedVariables false
set_option linter.unusedSimpArgs false
namespace Go.Am
/-! ### Lists -/
def il (l : List Int) : List AV := l.map (AV.i .i64)
def bl (l : List Bool) : List AV := l.map AV.b
/-- rows, one behind the other -/
def fl {α : Type} (enc : α → List AV) (l : List α) : List AV := (l.map enc).flatten
abbrev vi (l : List Int) : AV := .vs l.length (il l)
/-- bytes -/
def ul (l : List Int) : List AV := l.map (AV.i .u8)
abbrev vu (l : List Int) : AV := .vs l.length (ul l)
theorem ul_len (l : List Int) : (ul l).length = l.length := by simp [ul]
theorem ul_get {l : List Int} {j : Nat} (h : j < l.length) : (ul l)[j]? = some (.i .u8 (l.getD j 0)) := by simp [ul, h]
theorem ul_nil : ul [] = [] := rfl
theorem ul_snoc (l : List Int) (x : Int) : ul l ++ [.i .u8 x] = ul (l ++ [x]) := by simp [ul]
theorem ul_app (l m : List Int) : ul l ++ ul m = ul (l ++ m) := by simp [ul]
theorem ul_drop (l : List Int) (n : Nat) : (ul l).drop n = ul (l.drop n) := by simp [ul]
theorem ul_take (l : List Int) (n : Nat) : (ul l).take n = ul (l.take n) := by simp [ul]
theorem ul_set (l : List Int) (j : Nat) (x : Int) : (ul l).set j (.i .u8 x) = ul (l.set j x) := by simp [ul]
theorem ul_one (l : List Int) : (ul l).all AV.one = true := by simp [ul, AV.one]
theorem ul_abytes : ∀ (l : List Int), abytes (ul l) = some (l.map fun n => UInt8.ofNat n.toNat)
  | [] => rfl
  | x :: l => by
    have := ul_abytes l
    simp only [ul] at this
    simp only [ul, List.map_cons, abytes, this, Option.map_some]
theorem il_len (l : List Int) : (il l).length = l.length := by simp [il]
theorem bl_len (l : List Bool) : (bl l).length = l.length := by simp [bl]
theorem il_get {l : List Int} {j : Nat} (h : j < l.length) : (il l)[j]? = some (.i .i64 (l.getD j 0)) := by simp [il, h]
theorem bl_get {l : List Bool} {j : Nat} (h : j < l.length) : (bl l)[j]? = some (.b (l.getD j false)) := by simp [bl, h]
theorem il_nil : il [] = [] := rfl
theorem bl_nil : bl [] = [] := rfl
theorem il_snoc (l : List Int) (x : Int) : il l ++ [.i .i64 x] = il (l ++ [x]) := by simp [il]
theorem bl_snoc (l : List Bool) (x : Bool) : bl l ++ [.b x] = bl (l ++ [x]) := by simp [bl]
theorem il_app (l m : List Int) : il l ++ il m = il (l ++ m) := by simp [il]
theorem il_drop (l : List Int) (n : Nat) : (il l).drop n = il (l.drop n) := by simp [il]
theorem il_take (l : List Int) (n : Nat) : (il l).take n = il (l.take n) := by simp [il]
theorem il_set (l : List Int) (j : Nat) (x : Int) : (il l).set j (.i .i64 x) = il (l.set j x) := by simp [il]
theorem bl_set (l : List Bool) (j : Nat) (x : Bool) : (bl l).set j (.b x) = bl (l.set j x) := by simp [bl]
theorem il_one (l : List Int) : (il l).all AV.one = true := by simp [il, AV.one]
theorem bl_one (l : List Bool) : (bl l).all AV.one = true := by simp [bl, AV.one]
theorem plains_all : ∀ {l : List AV}, (∀ x ∈ l, x.plain = true) → AV.plains l = true
  | [], _ => rfl
  | y :: ys, h => by simp only [AV.plains, Bool.and_eq_true]; exact ⟨h y (by simp), plains_all fun x hx => h x (by simp [hx])⟩
theorem plains_app : ∀ {l m : List AV}, AV.plains l = true → AV.plains m = true → AV.plains (l ++ m) = true
  | [], m, _, h => h
  | y :: ys, m, h, k => by
    simp only [AV.plains, Bool.and_eq_true] at h
    simp only [List.cons_append, AV.plains, Bool.and_eq_true]
    exact ⟨h.1, plains_app h.2 k⟩
theorem il_plain (l : List Int) : AV.plains (il l) = true := plains_all fun x hx => by
  simp only [il, List.mem_map] at hx
  obtain ⟨y, _, rfl⟩ := hx; rfl
theorem ul_plain (l : List Int) : AV.plains (ul l) = true := plains_all fun x hx => by
  simp only [ul, List.mem_map] at hx
  obtain ⟨y, _, rfl⟩ := hx; rfl
theorem bl_plain (l : List Bool) : AV.plains (bl l) = true := plains_all fun x hx => by
  simp only [bl, List.mem_map] at hx
  obtain ⟨y, _, rfl⟩ := hx; rfl
theorem il_rep (n : Nat) : (List.replicate n [AV.i .i64 0]).flatten = il (List.replicate n 0) := by
  induction n with
  | zero => rfl
  | succ n ih => rw [List.replicate_succ, List.flatten_cons, ih]; simp [il, List.replicate_succ]
theorem bl_rep (n : Nat) : (List.replicate n [AV.b false]).flatten = bl (List.replicate n false) := by
  induction n with
  | zero => rfl
  | succ n ih => rw [List.replicate_succ, List.flatten_cons, ih]; simp [bl, List.replicate_succ]
section
variable {α : Type} {enc : α → List AV} {k : Nat}
theorem fl_nil : fl enc [] = [] := rfl
theorem fl_cons (x : α) (l : List α) : fl enc (x :: l) = enc x ++ fl enc l := by simp [fl]
theorem fl_snoc (l : List α) (x : α) : fl enc l ++ enc x = fl enc (l ++ [x]) := by simp [fl]
theorem fl_app (l m : List α) : fl enc l ++ fl enc m = fl enc (l ++ m) := by simp [fl]
theorem fl_len (hk : ∀ x, (enc x).length = k) : ∀ (l : List α), (fl enc l).length = l.length * k
  | [] => by simp [fl]
  | x :: l => by rw [fl_cons, List.length_append, hk, fl_len hk l, List.length_cons, Nat.succ_mul, Nat.add_comm]
theorem fl_drop (hk : ∀ x, (enc x).length = k) : ∀ (l : List α) (n : Nat), (fl enc l).drop (n * k) = fl enc (l.drop n)
  | l, 0 => by simp
  | [], n + 1 => by simp [fl]
  | x :: l, n + 1 => by
    rw [fl_cons, Nat.succ_mul, List.drop_succ_cons, Nat.add_comm, ← List.drop_drop, List.drop_append_of_le_length (by rw [hk]; exact Nat.le_refl _), List.drop_of_length_le (l := enc x) (by rw [hk]; exact Nat.le_refl _), List.nil_append]
    exact fl_drop hk l n
theorem fl_take (hk : ∀ x, (enc x).length = k) : ∀ (l : List α) (n : Nat), (fl enc l).take (n * k) = fl enc (l.take n)
  | l, 0 => by simp [fl]
  | [], n + 1 => by simp [fl]
  | x :: l, n + 1 => by
    rw [fl_cons, Nat.succ_mul, List.take_succ_cons, fl_cons, Nat.add_comm, List.take_add, List.take_append_of_le_length (by rw [hk]; exact Nat.le_refl _), List.take_of_length_le (by rw [hk]; exact Nat.le_refl _), List.drop_append_of_le_length (by rw [hk]; exact Nat.le_refl _), List.drop_of_length_le (l := enc x) (by rw [hk]; exact Nat.le_refl _), List.nil_append, fl_take hk l n]
theorem fl_at (hk : ∀ x, (enc x).length = k) (d : α) {l : List α} {j : Nat} (hj : j < l.length) : ((fl enc l).drop (j * k)).take k = enc (l.getD j d) := by
  rw [fl_drop hk, List.drop_eq_getElem_cons hj, fl_cons, List.take_append_of_le_length (by rw [hk]; exact Nat.le_refl _), List.take_of_length_le (by rw [hk]; exact Nat.le_refl _)]
  simp [hj]
theorem fl_rd (hk : ∀ x, (enc x).length = k) (d : α) {l : List α} {j : Nat} (hj : j < l.length) : rd (fl enc l) (j * k) (some k) = some (.ag (enc (l.getD j d))) := by
  simp only [rd]
  rw [if_pos, fl_at hk d hj]
  rw [fl_len hk]
  have := Nat.mul_le_mul_right k (show j + 1 ≤ l.length by omega)
  rw [Nat.succ_mul] at this
  exact this
theorem fl_get (hk : ∀ x, (enc x).length = k) (d : α) {l : List α} {j c : Nat} (hj : j < l.length) (hc : c < k) : (fl enc l)[j * k + c]? = (enc (l.getD j d))[c]? := by
  rw [← fl_at hk d hj, List.getElem?_take, if_pos hc, List.getElem?_drop]
theorem fl_one (ho : ∀ x, (enc x).all AV.one = true) (l : List α) : (fl enc l).all AV.one = true := by
  induction l with
  | nil => rfl
  | cons x l ih => rw [fl_cons, List.all_append, ho, ih]; rfl
theorem fl_plain (ho : ∀ x, AV.plains (enc x) = true) (l : List α) : AV.plains (fl enc l) = true := by
  induction l with
  | nil => rfl
  | cons x l ih => rw [fl_cons]; exact plains_app (ho x) ih
end
theorem getD_lt {α : Type} {l : List α} {j : Nat} (h : j < l.length) (d : α) : l.getD j d = l[j] := by simp [h]
/-! ### Loops -/
/-- a loop: at the start of round k the slots ks hold S k x, and of the heap Hp k x holds -/
theorem k_loopS {P : Program} {N : Nat} {b : AC} {Q : Exit → St → AH → Prop} {K : St → AH → Prop} {st : St} {h : AH} {X : Type} (ks : List Nat) (len : Nat) (S : Nat → X → St) (Hp : Nat → X → AH → Prop) (x0 : X) (e0 : Am.keep ks st = S 0 x0) (h0 : Hp 0 x0 h)
    (round : ∀ k x h, k ≤ len → Hp k x h → h.ok → 0 < h.nx → W P N b (athen (fun st' h' => k < len ∧ ∃ x', Am.keep ks st' = S (k + 1) x' ∧ Hp (k + 1) x' h') Q) (S k x) h) : W P N (.loop b) (athen K Q) st h :=
  k_loop (fun n st h => ∃ k x, k ≤ len ∧ n = len - k ∧ Am.keep ks st = S k x ∧ Hp k x h) len ⟨0, x0, Nat.zero_le _, rfl, e0, h0⟩ fun n st h hI => by
    obtain ⟨k, x, hk, rfl, e, hp⟩ := hI
    refine k_inv e (w_ok fun ok pos => (round k x h hk hp ok pos).mono fun e st' h' q => ?_)
    cases e
    case normal =>
      obtain ⟨hlt, x', e', hp'⟩ := q
      exact ⟨len - (k + 1), by omega, k + 1, x', by omega, rfl, e', hp'⟩
    all_goals exact q
/-- a loop with a number that every round lowers -/
theorem k_loopW {P : Program} {N : Nat} {b : AC} {Q : Exit → St → AH → Prop} {K : St → AH → Prop} {st : St} {h : AH} {X : Type} (ks : List Nat) (S : X → St) (M : X → Nat) (Hp : X → AH → Prop) (x0 : X) (e0 : Am.keep ks st = S x0) (h0 : Hp x0 h)
    (round : ∀ x h, Hp x h → h.ok → 0 < h.nx → W P N b (athen (fun st' h' => ∃ x', M x' < M x ∧ Am.keep ks st' = S x' ∧ Hp x' h') Q) (S x) h) : W P N (.loop b) (athen K Q) st h :=
  k_loop (fun n st h => ∃ x, n = M x ∧ Am.keep ks st = S x ∧ Hp x h) (M x0) ⟨x0, rfl, e0, h0⟩ fun n st h hI => by
    obtain ⟨x, rfl, e, hp⟩ := hI
    refine k_inv e (w_ok fun ok pos => (round x h hp ok pos).mono fun e st' h' q => ?_)
    cases e
    case normal =>
      obtain ⟨x', hlt, e', hp'⟩ := q
      exact ⟨M x', hlt, x', rfl, e', hp'⟩
    all_goals exact q
theorem VALS : (type_of% @il_len) ∧ (type_of% @bl_len) ∧ (type_of% @il_get) ∧ (type_of% @bl_get) ∧ (type_of% @il_nil) ∧ (type_of% @bl_nil) ∧ (type_of% @il_snoc) ∧ (type_of% @bl_snoc) ∧ (type_of% @il_app) ∧ (type_of% @il_drop) ∧ (type_of% @il_take) ∧ (type_of% @il_set) ∧ (type_of% @bl_set) ∧ (type_of% @il_one) ∧ (type_of% @bl_one) ∧ (type_of% @ul_len) ∧ (type_of% @ul_get) ∧ (type_of% @ul_nil) ∧ (type_of% @ul_snoc) ∧ (type_of% @ul_app) ∧ (type_of% @ul_drop) ∧ (type_of% @ul_take) ∧ (type_of% @ul_set) ∧ (type_of% @ul_one) ∧ (type_of% @ul_abytes) ∧ (type_of% @H1_nx) ∧ (type_of% @H1_m) :=
  ⟨@il_len, @bl_len, @il_get, @bl_get, @il_nil, @bl_nil, @il_snoc, @bl_snoc, @il_app, @il_drop, @il_take, @il_set, @bl_set, @il_one, @bl_one, @ul_len, @ul_get, @ul_nil, @ul_snoc, @ul_app, @ul_drop, @ul_take, @ul_set, @ul_one, @ul_abytes, @H1_nx, @H1_m⟩
section
variable {P : Program} {N : Nat} {Q : Exit → St → AH → Prop} {K : St → AH → Prop} {st : St} {h : AH} {id : Nat}
theorem k_blkR {l : List AOper} (q : W P N (.reg l) (athen K (ablk id (athen K Q))) st h) : W P N (.blk id (.reg l)) (athen K Q) st h := k_blk q
theorem k_blkH {m : Nat} {l : List AOper} (q : W P N (.head m l) (athen K (ablk id (athen K Q))) st h) : W P N (.blk id (.head m l)) (athen K Q) st h := k_blk q
theorem k_blkC {c : AX} {a b : AC} (q : W P N (.cond c a b) (athen K (ablk id (athen K Q))) st h) : W P N (.blk id (.cond c a b)) (athen K Q) st h := k_blk q
theorem k_blkB {id' : Nat} {a : AC} (q : W P N (.blk id' a) (athen K (ablk id (athen K Q))) st h) : W P N (.blk id (.blk id' a)) (athen K Q) st h := k_blk q
theorem k_blkK (q : W P N .skip (athen K (ablk id (athen K Q))) st h) : W P N (.blk id .skip) (athen K Q) st h := k_blk q
theorem k_blkE {id' : Nat} (q : W P N (.exit id') (athen K (ablk id (athen K Q))) st h) : W P N (.blk id (.exit id')) (athen K Q) st h := k_blk q
end
theorem ends_eq {v r : AV} {h : AH} (e : v = r) : Ends v r h := e ▸ ends_of
theorem PC.use {P : Program} {f : Nat} {args : List AV} {v : AV} (c : PC P f args v) (h : AH) : ACalls P f args h fun r h' => r = v ∧ h' = h := c h
theorem PC.eq {P : Program} {f : Nat} {args : List AV} {v v' : AV} (c : PC P f args v) (e : v = v') : PC P f args v' := e ▸ c
theorem b_eq {x y : Bool} (h : x = y) : AV.b x = AV.b y := h ▸ rfl
theorem i_eq {k : IntKind} {x y : Int} (h : x = y) : AV.i k x = AV.i k y := h ▸ rfl
end Go.Am
set_option linter.unusedVariables false
set_option linter.unusedSimpArgs false
namespace Go.Am
def lku {α : Type} [DecidableEq α] (a : α) : List (α × AV) → Option AV
  | [] => none
  | p :: r => if a = p.1 then some p.2 else lku a r
def lset {α : Type} [DecidableEq α] (a : α) (v : AV) : List (α × AV) → List (α × AV)
  | [] => [(a, v)]
  | p :: r => if a = p.1 then (a, v) :: r else p :: lset a v r
section
variable {α : Type} [DecidableEq α]
theorem lset_get (a b : α) (v : AV) : ∀ r : List (α × AV), lku b (lset a v r) = if b = a then some v else lku b r
  | [] => rfl
  | p :: r => by
    simp only [lset]
    by_cases h : a = p.1
    · rw [if_pos h]
      simp only [lku]
      by_cases e : b = a
      · rw [if_pos e, if_pos e]
      · rw [if_neg e, if_neg e, if_neg (by rw [← h]; exact e)]
    · rw [if_neg h]
      simp only [lku]
      rw [lset_get a b v r]
      by_cases e : b = p.1
      · rw [if_pos e, if_neg (by rw [e]; exact fun q => h q.symm), if_pos e]
      · rw [if_neg e, if_neg e]
theorem lset_mem {a x : α} {v : AV} : ∀ {r : List (α × AV)}, x ∈ (lset a v r).map Prod.fst → x = a ∨ x ∈ r.map Prod.fst
  | [], h => by simp [lset] at h; exact .inl h
  | p :: r, h => by
    simp only [lset] at h
    split at h
    · rw [List.map_cons, List.mem_cons] at h
      exact h.imp id fun q => by rw [List.map_cons]; exact List.mem_cons_of_mem _ q
    · rw [List.map_cons] at h
      rcases List.mem_cons.1 h with rfl | h'
      · exact .inr (by simp)
      · exact (lset_mem h').imp id fun q => by rw [List.map_cons]; exact List.mem_cons_of_mem _ q
theorem lset_nodup {a : α} {v : AV} : ∀ {r : List (α × AV)}, (r.map Prod.fst).Nodup → ((lset a v r).map Prod.fst).Nodup
  | [], _ => by simp [lset]
  | p :: r, h => by
    rw [List.map_cons, List.nodup_cons] at h
    simp only [lset]
    split
    · rename_i e
      rw [List.map_cons, List.nodup_cons]
      exact ⟨by rw [e]; exact h.1, h.2⟩
    · rename_i e
      rw [List.map_cons, List.nodup_cons]
      exact ⟨fun q => by
        rcases lset_mem q with q | q
        · exact e q.symm
        · exact h.1 q, lset_nodup h.2⟩
theorem lku_mem {a : α} : ∀ {r : List (α × AV)}, lku a r = none ↔ a ∉ r.map Prod.fst
  | [] => by simp [lku]
  | p :: r => by
    simp only [lku, List.map_cons, List.mem_cons]
    by_cases e : a = p.1
    · simp [e]
    · rw [if_neg e, lku_mem]; simp [e]
/-- what a map's entries are az a function; kk, enc: how the keys are laid -/
def MF (enc : α → AV) (es : List (AV × AV)) (g : α → Option AV) : Prop := ∃ ps : List (α × AV), es = ps.map (fun p => (enc p.1, p.2)) ∧ (ps.map Prod.fst).Nodup ∧ ∀ a, lku a ps = g a
variable {kk : Option (List Nat)} {enc : α → AV}
theorem MF.nil : MF enc [] fun _ => none := ⟨[], rfl, by simp, fun _ => rfl⟩
theorem find_ps (hq : ∀ a b, kq kk (enc a) (enc b) = some (decide (a = b))) (a : α) : ∀ (ps : List (α × AV)) (o : Nat),
    (lku a ps = none → mfind kk (enc a) (ps.map fun p => (enc p.1, p.2)) o = some none) ∧
    (∀ v, lku a ps = some v → ∃ j, mfind kk (enc a) (ps.map fun p => (enc p.1, p.2)) o = some (some (o + j, v)) ∧ ∀ u, (ps.map fun p => (enc p.1, p.2)).set j (enc a, u) = (lset a u ps).map fun p => (enc p.1, p.2))
  | [], o => ⟨fun _ => rfl, fun v h => nomatch h⟩
  | p :: r, o => by
    simp only [lku, List.map_cons, mfind, hq]
    by_cases e : a = p.1
    · simp only [e, if_true, decide_true, lset]
      exact ⟨fun h => (by cases h), fun v hv => ⟨0, by cases hv; rfl, fun u => by simp⟩⟩
    · simp only [e, if_false, decide_false, lset]
      obtain ⟨h1, h2⟩ := find_ps hq a r (o + 1)
      refine ⟨h1, fun v hv => ?_⟩
      obtain ⟨j, h3, h4⟩ := h2 v hv
      exact ⟨j + 1, by rw [h3]; simp only [Option.some.injEq, Prod.mk.injEq, and_true]; omega, fun u => by simp [h4 u]⟩
theorem lset_app {a : α} {v : AV} : ∀ {ps : List (α × AV)}, lku a ps = none → lset a v ps = ps ++ [(a, v)]
  | [], _ => rfl
  | p :: r, h => by
    simp only [lku] at h
    split at h
    · cases h
    · rename_i e
      simp only [lset, if_neg e, lset_app h, List.cons_append]
theorem mlk_F (hq : ∀ a b, kq kk (enc a) (enc b) = some (decide (a = b))) {es : List (AV × AV)} {g : α → Option AV} (m : MF enc es g) (z : AV) (ok : Bool) (a : α) :
    mlkB kk z ok (enc a) (.map es) = some (if ok then .tu [(g a).getD z, .b (g a).isSome] else (g a).getD z) := by
  obtain ⟨ps, rfl, _, h2⟩ := m
  simp only [mlkB, hq, decide_true, if_true]
  obtain ⟨q1, q2⟩ := find_ps hq a ps 0
  cases hg : g a with
  | none => rw [q1 ((h2 a).trans hg)]; rfl
  | some v => obtain ⟨j, e, _⟩ := q2 v ((h2 a).trans hg); rw [e]; rfl
/-- the entries behind a store -/
def mpt (kk : Option (List Nat)) (k v : AV) (es : List (AV × AV)) : List (AV × AV) := (mput kk k v es).getD es
theorem mup_F (hq : ∀ a b, kq kk (enc a) (enc b) = some (decide (a = b))) {es : List (AV × AV)} {g : α → Option AV} (m : MF enc es g) (a : α) (v : AV) :
    mupB kk (enc a) v (.map es) = some (.map (mpt kk (enc a) v es)) ∧ MF enc (mpt kk (enc a) v es) fun b => if b = a then some v else g b := by
  obtain ⟨ps, rfl, hn, h2⟩ := m
  have key : mput kk (enc a) v (ps.map fun p => (enc p.1, p.2)) = some ((lset a v ps).map fun p => (enc p.1, p.2)) := by
    unfold mput
    obtain ⟨q1, q2⟩ := find_ps hq a ps 0
    cases hg : g a with
    | none =>
      rw [q1 ((h2 a).trans hg), lset_app ((h2 a).trans hg)]
      simp
    | some u =>
      obtain ⟨j, e, e3⟩ := q2 u ((h2 a).trans hg)
      rw [e, Nat.zero_add]
      simp only [e3 v]
  refine ⟨?_, lset a v ps, ?_, lset_nodup hn, fun b => by rw [lset_get, h2]⟩
  · simp only [mupB, hq, decide_true, if_true, key, Option.map_some, mpt, Option.getD_some]
  · simp only [mpt, key, Option.getD_some]
theorem kq_i (a b : Int) : kq none (.i .i64 a) (.i .i64 b) = some (decide (a = b)) := rfl
end
/-- maps with numbers for keys -/
abbrev MFi (es : List (AV × AV)) (g : Int → Option AV) : Prop := MF (AV.i .i64) es g
theorem MFi.lk {es : List (AV × AV)} {g : Int → Option AV} (m : MFi es g) (z : AV) (ok : Bool) (a : Int) : mlkB none z ok (.i .i64 a) (.map es) = some (if ok then .tu [(g a).getD z, .b (g a).isSome] else (g a).getD z) := mlk_F kq_i m z ok a
theorem MFi.up {es : List (AV × AV)} {g : Int → Option AV} (m : MFi es g) (a : Int) (v : AV) : mupB none (.i .i64 a) v (.map es) = some (.map (mpt none (.i .i64 a) v es)) ∧ MFi (mpt none (.i .i64 a) v es) fun b => if b = a then some v else g b := mup_F kq_i m a v
theorem MFi.eq {es : List (AV × AV)} {g g' : Int → Option AV} (m : MFi es g) (h : ∀ a, g a = g' a) : MFi es g' := (funext h : g = g') ▸ m
/-- a set of numbers -/
def setOf (p : Int → Prop) [DecidablePred p] : Int → Option AV := fun n => if p n then some (.b true) else none
theorem setOf_get (p : Int → Prop) [DecidablePred p] (n : Int) : ((setOf p n).getD (.b false)) = .b (decide (p n)) := by
  unfold setOf; by_cases h : p n <;> simp [h]
theorem MFi.set_lk {es : List (AV × AV)} {p : Int → Prop} [DecidablePred p] (m : MFi es (setOf p)) (a : Int) : mlkB none (.b false) false (.i .i64 a) (.map es) = some (.b (decide (p a))) := by
  rw [MFi.lk m, setOf_get]; rfl
theorem MFi.set_up {es : List (AV × AV)} {p : Int → Prop} [DecidablePred p] (m : MFi es (setOf p)) (a : Int) (q : Int → Prop) [DecidablePred q] (h : ∀ b, q b ↔ (b = a ∨ p b)) : MFi (mpt none (.i .i64 a) (.b true) es) (setOf q) :=
  MFi.eq (MFi.up m a (.b true)).2 fun b => by
    unfold setOf
    have := h b
    by_cases e : b = a
    · rw [if_pos e, if_pos (this.2 (.inl e))]
    · rw [if_neg e]
      by_cases hp : p b
      · rw [if_pos hp, if_pos (this.2 (.inr hp))]
      · rw [if_neg hp, if_neg fun hq => (this.1 hq).elim e hp]
theorem MFi.set_nil {p : Int → Prop} [DecidablePred p] (h : ∀ a, ¬ p a) : MFi [] (setOf p) := MFi.eq MF.nil fun a => by unfold setOf; rw [if_neg (h a)]
end Go.Am
set_option linter.unusedVariables false
set_option linter.unusedSimpArgs false
namespace Go.Am
open Go.ChangeShapes Go.WideShapes
/-- every block of cells of a world -/
def φW (W : World) : Nat → Option (Array Value) := fun b => match W.heap[b]? with
  | some (.cells xs _ _) => some xs
  | _ => none
theorem φW_ok (W : World) : ∀ b xs, φW W b = some xs → ∃ e fz, W.heap[b]? = some (.cells xs e fz) := by
  intro b xs h
  unfold φW at h
  split at h
  · rename_i ys e fz hh; cases h; exact ⟨e, fz, hh⟩
  · cases h
def ιφ (W : World) : Inj := ⟨fun _ => none, φW W⟩
theorem φW_cell {W : World} {b o : Nat} {s : Option Nat} {x : Value} (h : W.cell? ⟨b, o, s⟩ = some x) : s = none ∧ ∃ xs, φW W b = some xs ∧ xs[o]? = some x := by
  unfold World.cell? at h
  split at h
  · rename_i vs e fz hh
    split at h
    · cases h
    · rename_i hs
      refine ⟨by cases s <;> simp_all, vs, by unfold φW; rw [hh], h⟩
  · cases h
inductive Kd2 where
  | i (k : IntKind)
  | b
  | s
  | sl (ks : List Kd2)
mutual
/-- the shape of a value -/
def Shp : Kd2 → AV → Prop
  | .i k, a => ∃ n, a = .i k n ∧ (Lit.int k n).wf = true
  | .b, a => ∃ x, a = .b x
  | .s, a => ∃ x, a = .s x ∧ x.size ≤ maxLen
  | .sl ks, a => ∃ rs : List (List AV), a = .vs rs.length rs.flatten ∧ rs.length ≤ maxLen ∧ ∀ r ∈ rs, Shps ks r
def Shps : List Kd2 → List AV → Prop
  | [], az => az = []
  | k :: ks, az => ∃ a r, az = a :: r ∧ Shp k a ∧ Shps ks r
end
theorem Shps_length : ∀ {ks : List Kd2} {az : List AV}, Shps ks az → az.length = ks.length
  | [], az, h => by simp only [Shps] at h; subst h; rfl
  | k :: ks, az, h => by
    simp only [Shps] at h
    obtain ⟨v, r, rfl, _, h⟩ := h
    simp [Shps_length h]
theorem Shps_append : ∀ {ks ls : List Kd2} {az bs : List AV}, Shps ks az → Shps ls bs → Shps (ks ++ ls) (az ++ bs)
  | [], ls, az, bs, h, k => by simp only [Shps] at h; subst h; exact k
  | x :: ks, ls, az, bs, h, k => by
    simp only [Shps] at h
    obtain ⟨v, r, rfl, h1, h2⟩ := h
    simp only [List.cons_append, Shps]
    exact ⟨v, r ++ bs, rfl, h1, Shps_append h2 k⟩
/-- what a row of values of such a shape is seen az -/
def Sees (W : World) (ks : List Kd2) (cs : List Value) : Prop := ∃ az, Shps ks az ∧ VRels (ιφ W) az cs
theorem Sees.append {W : World} {ks ls : List Kd2} {cs ds : List Value} (h : Sees W ks cs) (k : Sees W ls ds) : Sees W (ks ++ ls) (cs ++ ds) := by
  obtain ⟨az, h1, h2⟩ := h
  obtain ⟨bs, k1, k2⟩ := k
  exact ⟨az ++ bs, Shps_append h1 k1, h2.append k2⟩
theorem Sees.nil {W : World} : Sees W [] [] := ⟨[], rfl, by simp [VRels]⟩
theorem Sees.one {W : World} {k : Kd2} {v : Value} {a : AV} (h : Shp k a) (r : VRel (ιφ W) a v) : Sees W [k] [v] := ⟨[a], by simp only [Shps]; exact ⟨a, [], rfl, h, rfl⟩, by simp only [VRels]; exact ⟨v, [], rfl, r, rfl⟩⟩
def flatF2 (P : Program) (g : TypeId → Option (List Kd2)) : List Field → Nat → Option (List Kd2)
  | [], _ => some []
  | fd :: r, off => match g fd.type with
    | some ks => if fd.offset = off ∧ P.cellsOf fd.type = ks.length then (flatF2 P g r (off + ks.length)).map (ks ++ ·) else none
    | none => none
/-- the cells of a plain type; slices of such -/
def flat2 (P : Program) : Nat → TypeId → Option (List Kd2)
  | 0, _ => none
  | f + 1, t => match P.underlying t with
    | some (.int k) => some [.i k]
    | some .bool => some [.b]
    | some .string => some [.s]
    | some (.struct fs) => match flatF2 P (flat2 P f) fs.toList 0 with
      | some ks => if P.cellsOf t = ks.length then some ks else none
      | none => none
    | some (.array n e) => match flat2 P f e with
      | some ks => if P.cellsOf e = ks.length ∧ P.cellsOf t = n * ks.length then some (List.replicate n ks).flatten else none
      | none => none
    | some (.slice e) => match flat2 P f e with
      | some ks => if P.cellsOf e = ks.length ∧ 0 < ks.length then some [.sl ks] else none
      | none => none
    | _ => none
theorem flatF2_ok {W : World} {P : Program} {g : TypeId → Option (List Kd2)} {cs : List Value} : ∀ {l : List Field} {off : Nat} {ks : List Kd2}, flatF2 P g l off = some ks →
    (∀ fd ∈ l, ∀ ks, g fd.type = some ks → Sees W ks ((cs.drop fd.offset).take (P.cellsOf fd.type))) → Sees W ks ((cs.drop off).take ks.length)
  | [], off, ks, h, _ => by simp only [flatF2, Option.some.injEq] at h; subst h; simp only [List.length_nil, List.take_zero]; exact Sees.nil
  | fd :: r, off, ks, h, H => by
    simp only [flatF2] at h
    split at h
    · rename_i k1 hg
      split at h
      · rename_i hc
        simp only [Option.map_eq_some_iff] at h
        obtain ⟨k2, h2, rfl⟩ := h
        have a1 := H fd (by simp) k1 hg
        rw [hc.1, hc.2] at a1
        have a2 := flatF2_ok h2 fun f hf => H f (by simp [hf])
        have : (cs.drop off).take (k1 ++ k2).length = (cs.drop off).take k1.length ++ (cs.drop (off + k1.length)).take k2.length := by
          rw [List.length_append, ← List.drop_drop, List.take_add]
        rw [this]
        exact a1.append a2
      · cases h
    · cases h
theorem sees_rep {W : World} {ks : List Kd2} : ∀ {n : Nat} {cs : List Value}, cs.length = n * ks.length → (∀ i, i < n → Sees W ks ((cs.drop (i * ks.length)).take ks.length)) → Sees W (List.replicate n ks).flatten cs
  | 0, cs, h, _ => by simp at h; subst h; exact Sees.nil
  | n + 1, cs, h, H => by
    rw [List.replicate_succ, List.flatten_cons]
    have h0 := H 0 (by omega)
    simp only [Nat.zero_mul, List.drop_zero] at h0
    have h1 := sees_rep (W := W) (ks := ks) (n := n) (cs := cs.drop ks.length) (by rw [List.length_drop, h, Nat.succ_mul]; omega) fun i hi => by
      have := H (i + 1) (by omega)
      rw [List.drop_drop]
      rwa [show ks.length + i * ks.length = (i + 1) * ks.length by rw [Nat.succ_mul]; omega]
    have := h0.append h1
    rwa [List.take_append_drop] at this
theorem vrels_nil {ι : Inj} : VRels ι [] [] := by simp only [VRels]
theorem vrels_cons {ι : Inj} {a : AV} {v : Value} {az : List AV} {vs : List Value} (r : VRel ι a v) (h : VRels ι az vs) : VRels ι (a :: az) (v :: vs) := by simp only [VRels]; exact ⟨v, vs, rfl, r, h⟩
/-- so many rows, one behind the other -/
theorem rows_rel {ι : Inj} {ks : List Kd2} {k : Nat} (hk : ks.length = k) (L : List Value) : ∀ (n : Nat), (∀ i, i < n → ∃ az, Shps ks az ∧ VRels ι az ((L.drop (i * k)).take k)) → ∃ rs : List (List AV), rs.length = n ∧ (∀ r ∈ rs, Shps ks r) ∧ VRels ι rs.flatten (L.take (n * k)) ∧ rs.flatten.length = n * k
  | 0, _ => ⟨[], rfl, fun r h => (by cases h), by simp [VRels], by simp⟩
  | n + 1, H => by
    obtain ⟨rs, h1, h2, h3, h4⟩ := rows_rel hk L n fun i hi => H i (by omega)
    obtain ⟨az, h5, h6⟩ := H n (by omega)
    have hl := Shps_length h5
    refine ⟨rs ++ [az], by simp [h1], fun r hr => ?_, ?_, ?_⟩
    · rcases List.mem_append.1 hr with h | h
      · exact h2 r h
      · simp at h; subst h; exact h5
    · rw [List.flatten_append, Nat.succ_mul, List.take_add]
      simpa using h3.append h6
    · simp only [List.flatten_append, List.length_append, h4, List.flatten_cons, List.flatten_nil, List.append_nil, hl, hk, Nat.succ_mul]
theorem choose_fn {α : Type} [Inhabited α] {n : Nat} {p : Nat → α → Prop} (h : ∀ i, i < n → ∃ x, p i x) : ∃ g : Nat → α, ∀ i, i < n → p i (g i) :=
  ⟨fun i => if hi : i < n then Classical.choose (h i hi) else default, fun i hi => by simp only [hi, dif_pos]; exact Classical.choose_spec (h i hi)⟩
section
variable {H : Type} {enc : TypeId × Value → H} {P : Program} {w : World} {held : Bool}
theorem trod_array {fuel : Nat} {t : TypeId} {cs : List Value} {x : DataW H × List MemPlace} {n : Nat} {e : TypeId} (ht : P.underlying t = some (.array n e)) (h : DataW.trod enc P w 0 (fun _ => true) held fuel t cs = some x) :
    ∃ (fu : Nat) (xs : List (DataW H × List MemPlace)), fuel = fu + 1 ∧ cs.length = P.cellsOf t ∧ xs.length = n ∧ ∀ i, i < n → DataW.trod enc P w 0 (fun _ => true) held fu e ((cs.drop (i * P.cellsOf e)).take (P.cellsOf e)) = xs[i]? := by
  cases fuel with
  | zero => simp [DataW.trod] at h
  | succ m =>
    unfold DataW.trod at h
    rw [ht] at h
    split at h <;> simp_all
    obtain ⟨hl, xs, hp, hd⟩ := h
    exact ⟨xs, by simpa using mapM_some_length hp, fun i hi => mapM_some_get hp i i (by simp [hi])⟩
theorem flat2_ok : ∀ {f : Nat} {t : TypeId} {ks : List Kd2}, flat2 P f t = some ks → ∀ {fuel : Nat} {cs : List Value} {x : DataW H × List MemPlace}, DataW.trod enc P w 0 (fun _ => true) held fuel t cs = some x → Sees w ks cs
  | 0, t, ks, h, _, _, _, _ => by simp [flat2] at h
  | f + 1, t, ks, h, fuel, cs, x, hx => by
    simp only [flat2] at h
    split at h
    · rename_i k hu
      cases h
      obtain ⟨n, rfl, _, hw⟩ := DataW.trod_int hu hx
      exact Sees.one (a := .i _ n) (by simp only [Shp]; exact ⟨n, rfl, hw⟩) (by simp only [VRel])
    · rename_i hu
      cases h
      obtain ⟨b, rfl, _⟩ := DataW.trod_bool hu hx
      exact Sees.one (a := .b b) (by simp only [Shp]; exact ⟨b, rfl⟩) (by simp only [VRel])
    · rename_i hu
      cases h
      obtain ⟨s, rfl, _, hs⟩ := DataW.trod_string hu hx
      exact Sees.one (a := .s s) (by simp only [Shp]; exact ⟨s, rfl, hs⟩) (by simp only [VRel])
    · rename_i fs hu
      split at h
      · rename_i k1 hk
        split at h
        · rename_i hl
          cases h
          obtain ⟨xs, n, _, _, hlen, hxs, hf⟩ := DataW.trod_struct hu hx
          have := flatF2_ok (W := w) (cs := cs) hk fun fd hfd ks hg => by
            obtain ⟨i, hi, e⟩ := List.mem_iff_getElem.1 hfd
            have hfi : fs[i]? = some fd := by
              rw [Array.getElem?_eq_getElem (by simpa using hi)]
              simpa using e
            have h1 := hf i fd hfi
            rw [List.getElem?_eq_getElem (by rw [hxs]; simpa using hi)] at h1
            exact flat2_ok hg h1
          rw [List.drop_zero, ← hl, ← hlen, List.take_length] at this
          exact this
        · cases h
      · cases h
    · rename_i n e hu
      split at h
      · rename_i k1 hk
        split at h
        · rename_i hl
          cases h
          obtain ⟨fu, xs, _, hlen, hxl, hxs⟩ := trod_array hu hx
          refine sees_rep (by rw [hlen]; exact hl.2) fun i hi => ?_
          have := hxs i hi
          rw [hl.1, List.getElem?_eq_getElem (by omega)] at this
          exact flat2_ok hk this
        · cases h
      · cases h
    · rename_i e hu
      split at h
      · rename_i k1 hk
        split at h
        · rename_i hl
          cases h
          rcases Go.Deep.open_slice hu hx with ⟨rfl, _⟩ | ⟨a, len, cap, m, n, D, Pl, rfl, hb, hle, hcap, hm, _, hel⟩
          · exact Sees.one (a := .vs 0 []) (by simp only [Shp]; exact ⟨[], rfl, by simp, fun r h => (by cases h)⟩) (by simp only [VRel]; exact .inl ⟨by trivial, _, rfl⟩)
          · simp only [if_true] at hm
            subst hm
            by_cases h0 : m = 0
            · subst h0
              obtain rfl : len = 0 := by omega
              exact Sees.one (a := .vs 0 []) (by simp only [Shp]; exact ⟨[], rfl, by simp, fun r h => (by cases h)⟩) (by simp only [VRel]; exact .inl ⟨by trivial, _, rfl⟩)
            · obtain ⟨g, hg⟩ := choose_fn (α := List Value) hel
              obtain ⟨hl1, hl2⟩ := hl
              have slen : ∀ i, i < m → (g i).length = k1.length := fun i hi => by
                obtain ⟨az, h1, h2⟩ := flat2_ok hk (hg i hi).2
                rw [← h2.length, Shps_length h1]
              have key : ∀ i, i < m → ∀ j x, (g i)[j]? = some x → w.cell? ((a.add (i * P.cellsOf e)).add j) = some x := fun i hi j x hj => by
                have h1 := (hg i hi).1
                unfold World.cells? at h1
                split at h1
                · have hlen := mapM_some_length h1
                  have hj' : j < (g i).length := (List.getElem?_eq_some_iff.1 hj).1
                  have := mapM_some_get h1 j j (List.getElem?_eq_some_iff.2 ⟨by omega, by simp⟩)
                  rw [this, hj]
                · cases h1
              have len0 : (g 0).length = k1.length := slen 0 (by omega)
              obtain ⟨x0, hx0⟩ : ∃ x0, (g 0)[0]? = some x0 := ⟨(g 0)[0]'(by omega), List.getElem?_eq_getElem _⟩
              have k0 := key 0 (by omega) 0 x0 hx0
              rw [Nat.zero_mul, show (a.add 0).add 0 = a from rfl] at k0
              obtain ⟨b, o, sp⟩ := a
              obtain ⟨rfl, xs, hxs, _⟩ := φW_cell k0
              have row : ∀ i, i < len → ((xs.toList.drop o).drop (i * k1.length)).take k1.length = g i := fun i hi => by
                refine List.ext_getElem? fun j => ?_
                rw [List.getElem?_take]
                split
                · rename_i hj
                  obtain ⟨y, hy⟩ : ∃ y, (g i)[j]? = some y := ⟨(g i)[j]'(by rw [slen i (by omega)]; exact hj), List.getElem?_eq_getElem _⟩
                  have := key i (by omega) j y hy
                  rw [Addr.add_eq, Addr.add_eq, hl1] at this
                  obtain ⟨_, ys, q1, q2⟩ := φW_cell this
                  rw [hxs] at q1; cases q1
                  rw [hy, List.getElem?_drop, List.getElem?_drop, Array.getElem?_toList, ← q2]
                  congr 1; omega
                · rename_i hj
                  rw [List.getElem?_eq_none]
                  rw [slen i (by omega)]; omega
              obtain ⟨rs, r1, r2, r3, r4⟩ := rows_rel (ι := ιφ w) (ks := k1) rfl (xs.toList.drop o) len fun i hi => by rw [row i hi]; exact flat2_ok hk (hg i (by omega)).2
              refine Sees.one (a := .vs len rs.flatten) (by simp only [Shp]; exact ⟨rs, by rw [r1], by omega, r2⟩) ?_
              simp only [VRel]
              exact .inr ⟨b, o, m, xs, rfl, hle, hxs, by rw [r4]; exact r3⟩
        · cases h
      · cases h
    · cases h
theorem open2 {base : Nat} {r : Reach} {t : TypeId} {v : Value} {d : DataW H} {p : List MemPlace} {f : Nat} {ks : List Kd2} (hk : flat2 P f t = some ks) (h : DataW.Trod enc P w 0 (fun _ => true) held t v d p) : Sees w ks v.cells.toList := by
  obtain ⟨fuel, hf⟩ := h
  exact flat2_ok hk hf
/-- an argument of one cell -/
theorem arg1 {t : TypeId} {v : Value} {d : DataW H} {p : List MemPlace} {f : Nat} {k : Kd2} (hk : flat2 P f t = some [k]) (h : DataW.Trod enc P w 0 (fun _ => true) held t v d p) (hv : v.cells = #[v]) : ∃ a, Shp k a ∧ VRel (ιφ w) a v := by
  obtain ⟨az, h1, h2⟩ := open2 (base := 0) (r := .any) hk h
  rw [hv] at h2
  simp only [Shps] at h1
  obtain ⟨a, r, rfl, h3, rfl⟩ := h1
  simp only [VRels] at h2
  obtain ⟨v', r', e, h4, rfl⟩ := h2
  cases e
  exact ⟨a, h3, h4⟩
/-- an argument of many cells -/
theorem argN {t : TypeId} {cs : Array Value} {d : DataW H} {p : List MemPlace} {f : Nat} {ks : List Kd2} (hk : flat2 P f t = some ks) (h : DataW.Trod enc P w 0 (fun _ => true) held t (.agg cs) d p) : ∃ az, Shps ks az ∧ VRel (ιφ w) (.ag az) (.agg cs) := by
  obtain ⟨az, h1, h2⟩ := open2 (base := 0) (r := .any) hk h
  exact ⟨az, h1, by simp only [VRel]; exact ⟨cs, rfl, h2⟩⟩
theorem okWide_array {r : Reach} {base n : Nat} {t e : TypeId} {v : Value} (ht : P.underlying t = some (.array n e)) (h : Value.okWide P w r base t v) : ∃ cs, v = .agg cs ∧ cs.size = P.cellsOf t := by
  simp only [Value.okWide, ht] at h
  obtain ⟨cs, h1, h2, _⟩ := h
  exact ⟨cs, h1, h2⟩
end
/-- rows of such a shape, az a list of data -/
theorem sl_dec {α : Type} (enc : α → List AV) (p : α → Prop) {ks : List Kd2} (dec : ∀ r, Shps ks r → ∃ x, r = enc x ∧ p x) {a : AV} (h : Shp (.sl ks) a) : ∃ l : List α, a = .vs l.length (l.map enc).flatten ∧ l.length ≤ 9223372036854775807 ∧ ∀ x ∈ l, p x := by
  simp only [Shp] at h
  obtain ⟨rs, rfl, h1, h2⟩ := h
  have : ∀ rs : List (List AV), (∀ r ∈ rs, Shps ks r) → ∃ l : List α, rs = l.map enc ∧ ∀ x ∈ l, p x := by
    intro rs
    induction rs with
    | nil => intro _; exact ⟨[], rfl, fun x h => (by cases h)⟩
    | cons r rs ih =>
      intro h
      obtain ⟨x, rfl, hx⟩ := dec r (h r (by simp))
      obtain ⟨l, rfl, hl⟩ := ih fun r hr => h r (by simp [hr])
      exact ⟨x :: l, rfl, fun y hy => by rcases List.mem_cons.1 hy with rfl | hy; exact hx; exact hl y hy⟩
  obtain ⟨l, rfl, hl⟩ := this rs h2
  rw [List.length_map] at h1
  exact ⟨l, by simp, h1, hl⟩
theorem wf_i64 {n : Int} (h : (Lit.int .i64 n).wf = true) : -9223372036854775808 ≤ n ∧ n ≤ 9223372036854775807 := by
  simp only [Lit.wf, Bool.and_eq_true, decide_eq_true_eq] at h
  exact h
theorem wf_u8 {n : Int} (h : (Lit.int .u8 n).wf = true) : 0 ≤ n ∧ n ≤ 255 := by
  simp only [Lit.wf, Bool.and_eq_true, decide_eq_true_eq] at h
  exact h
/-- a number of 64 bits -/
def i64 (n : Int) : Prop := -9223372036854775808 ≤ n ∧ n ≤ 9223372036854775807
theorem shp_i64 {a : AV} (h : Shp (.i .i64) a) : ∃ n : Int, a = .i .i64 n ∧ i64 n := by
  simp only [Shp] at h
  obtain ⟨n, rfl, hw⟩ := h
  exact ⟨n, rfl, wf_i64 hw⟩
theorem shp_u8 {a : AV} (h : Shp (.i .u8) a) : ∃ n : Int, a = .i .u8 n ∧ 0 ≤ n ∧ n ≤ 255 := by
  simp only [Shp] at h
  obtain ⟨n, rfl, hw⟩ := h
  exact ⟨n, rfl, wf_u8 hw⟩
theorem shp_b {a : AV} (h : Shp .b a) : ∃ x, a = .b x := by simpa only [Shp] using h
theorem shps_nil {az : List AV} (h : Shps [] az) : az = [] := by simpa only [Shps] using h
theorem shps_cons {k : Kd2} {ks : List Kd2} {az : List AV} (h : Shps (k :: ks) az) : ∃ a r, az = a :: r ∧ Shp k a ∧ Shps ks r := by simpa only [Shps] using h
end Go.Am
set_option linter.unusedVariables false
set_option linter.unusedSimpArgs false
namespace Go.Am
mutual
/-- no slice, no pointer -/
def AV.scal : AV → Bool
  | .p .. | .sl .. | .mp .. | .vs .. | .pv .. | .fn .. | .fy .. => false
  | .ag cs => AV.scals cs
  | .tu cs => AV.scals cs
  | .gd _ v => v.scal
  | _ => true
def AV.scals : List AV → Bool
  | [] => true
  | v :: r => v.scal && AV.scals r
end
mutual
theorem scal_rel {ι ι' : Inj} : ∀ {a : AV} {v : Value}, a.scal = true → VRel ι a v → VRel ι' a v
  | .un, _, _, _ => by simp [VRel]
  | .b x, v, _, r => by simpa [VRel] using r
  | .i k n, v, _, r => by simpa [VRel] using r
  | .s x, v, _, r => by simpa [VRel] using r
  | .p t o, v, q, r => by simp [AV.scal] at q
  | .nilp, v, _, r => by simpa [VRel] using r
  | .sl t o n a, v, q, r => by simp [AV.scal] at q
  | .fn f fst caps, v, q, r => by simp [AV.scal] at q
  | .nilf, v, _, r => by simpa [VRel] using r
  | .mp t, v, q, r => by simp [AV.scal] at q
  | .fy t, v, q, r => by simp [AV.scal] at q
  | .nilm, v, _, r => by simpa [VRel] using r
  | .vs n cs, v, q, r => by simp [AV.scal] at q
  | .pv cs o, v, q, r => by simp [AV.scal] at q
  | .ag cs, v, q, r => by
    simp only [AV.scal] at q
    simp only [VRel] at *; obtain ⟨x, h1, h2⟩ := r; exact ⟨x, h1, scals_rel q h2⟩
  | .tu cs, v, q, r => by
    simp only [AV.scal] at q
    simp only [VRel] at *; obtain ⟨x, h1, h2⟩ := r; exact ⟨x, h1, scals_rel q h2⟩
  | .gd g a, v, q, r => by
    simp only [AV.scal] at q
    simp only [VRel] at *; exact ⟨fun hg => scal_rel q (r.1 hg), r.2⟩
theorem scals_rel {ι ι' : Inj} : ∀ {az : List AV} {vs : List Value}, AV.scals az = true → VRels ι az vs → VRels ι' az vs
  | [], _, _, r => by simpa [VRels] using r
  | a :: az, vs, q, r => by
    simp only [AV.scals, Bool.and_eq_true] at q
    simp only [VRels] at *; obtain ⟨v, t, h1, h2, h3⟩ := r; exact ⟨v, t, h1, scal_rel q.1 h2, scals_rel q.2 h3⟩
end
mutual
/-- what a value is at this moment, with rows az they are -/
inductive Now (h : AH) : AV → AV → Prop
  | same {v : AV} (hp : v.plain = true) : Now h v v
  | nil {o a : Nat} : Now h (.sl 0 o 0 a) (.vs 0 [])
  | sl {t o n a : Nat} {cs ds es : List AV} (hr : h.row t = some cs) (hd : (cs.drop o).take ds.length = ds) (hv : Nows h ds es) : Now h (.sl t o n a) (.vs n es)
  | p {t o : Nat} {cs es : List AV} (hr : h.row t = some cs) (hv : Nows h cs es) : Now h (.p t o) (.pv es o)
  | ag {vs ws : List AV} (hv : Nows h vs ws) : Now h (.ag vs) (.ag ws)
  | fn {f : Nat} {az bs as' bs' : List AV} (h1 : Nows h az as') (h2 : Nows h bs bs') : Now h (.fn f az bs) (.fn f as' bs')
inductive Nows (h : AH) : List AV → List AV → Prop
  | nil : Nows h [] []
  | cons {v w : AV} {vs ws : List AV} (hv : Now h v w) (hs : Nows h vs ws) : Nows h (v :: vs) (w :: ws)
end
theorem Nows.same {h : AH} : ∀ {vs : List AV}, AV.plains vs = true → Nows h vs vs
  | [], _ => .nil
  | v :: vs, q => by
    simp only [AV.plains, Bool.and_eq_true] at q
    exact .cons (.same q.1) (Nows.same q.2)
theorem Nows.length {h : AH} : ∀ {vs ws : List AV}, Nows h vs ws → vs.length = ws.length
  | _, _, .nil => rfl
  | _, _, .cons _ hs => by simp [Nows.length hs]
/-- a row from its start -/
theorem Now.row {h : AH} {t n a : Nat} {cs : List AV} (hr : h.row t = some cs) (hp : AV.plains cs = true) : Now h (.sl t 0 n a) (.vs n cs) :=
  .sl (ds := cs) hr (by rw [List.drop_zero, List.take_length]) (Nows.same hp)
theorem row_at {ι : Inj} {h : AH} {w : World} (wr : WRel ι h w) {t : Nat} {cs : List AV} (hr : h.row t = some cs) {l : Loc} (hl : ι t = some l) : ∃ xs, φW w l.b = some xs ∧ Lies ι cs xs l.sh := by
  have key : ∀ {vs : Array Value} {e : TypeId} {fz : Nat × Nat}, w.heap[l.b]? = some (.cells vs e fz) → l.sh + cs.length ≤ vs.size → (∀ (i : Nat) (a : AV), cs[i]? = some a → ∃ v : Value, vs[l.sh + i]? = some v ∧ VRel ι a v) → ∃ xs, φW w l.b = some xs ∧ Lies ι cs xs l.sh := by
    intro vs e fz h1 h2 h3
    refine ⟨vs, by unfold φW; rw [h1], VRels_iff.2 ⟨by simp; omega, fun i a v ha hv => ?_⟩⟩
    obtain ⟨u, hu, hr⟩ := h3 i a ha
    rw [List.getElem?_take] at hv
    split at hv
    · rw [List.getElem?_drop, Array.getElem?_toList, hu] at hv
      cases hv; exact hr
    · cases hv
  unfold AH.row at hr
  split at hr
  · rename_i wr' cs' hm
    cases hr
    have hb := (wr.blk t _ hm).2
    simp only [BRel] at hb
    rcases hb with ⟨_, h2⟩ | ⟨l1, vs, e, fz, h1, h2, h3, h4, h5, h6⟩
    · rw [hl] at h2; cases h2
    · rw [hl] at h1; cases h1
      exact key h2 (by omega) h6
  · rename_i cs' hm
    cases hr
    have hb := (wr.blk t _ hm).2
    simp only [BRel] at hb
    obtain ⟨l1, vs, e, h1, h2, h3, h4, h6⟩ := hb
    rw [hl] at h1; cases h1
    exact key h2 (by omega) h6
  · cases hr
mutual
theorem Now.rel {ι : Inj} {h : AH} {w : World} (wr : WRel ι h w) : ∀ {v v' : AV} {u : Value}, Now h v v' → VRel ι v u → VRel (ιφ w) v' u
  | _, _, u, .same hp, r => plain_rel (fun b xs hb => by
      obtain ⟨⟨e, fz, hh⟩, _⟩ := wr.phi b xs hb
      show φW w b = some xs
      unfold φW; rw [hh]) hp r
  | _, _, u, @Now.nil _ o a, r => by
    simp only [VRel] at r ⊢
    rcases r with ⟨h0, x, rfl⟩ | ⟨l, cap, hl, _⟩
    · exact .inl ⟨by trivial, x, rfl⟩
    · rw [wr.nil] at hl; cases hl
  | _, _, u, @Now.sl _ t o n a cs ds es hr hd hv, r => by
    simp only [VRel] at r ⊢
    rcases r with ⟨h0, x, rfl⟩ | ⟨l, cap, hl, rfl, hc, _⟩
    · exact .inl ⟨h0, x, rfl⟩
    · obtain ⟨xs, hx, hL⟩ := row_at wr hr hl
      refine .inr ⟨l.b, l.sh + o, cap, xs, rfl, hc, hx, ?_⟩
      rw [← Nows.length hv]
      have := Lies.take (Lies.drop hL o) ds.length
      rw [hd] at this
      exact Nows.rel wr hv this
  | _, _, u, @Now.p _ t o cs es hr hv, r => by
    simp only [VRel] at r ⊢
    obtain ⟨l, hl, rfl⟩ := r
    obtain ⟨xs, hx, hL⟩ := row_at wr hr hl
    refine ⟨l.b, l.sh, xs, rfl, hx, ?_⟩
    rw [← Nows.length hv]
    exact Nows.rel wr hv hL
  | _, _, u, .ag hv, r => by simp only [VRel] at r ⊢; obtain ⟨x, hx, r⟩ := r; exact ⟨x, hx, Nows.rel wr hv r⟩
  | _, _, u, .fn h1 h2, r => by simp only [VRel] at r ⊢; obtain ⟨x, y, hx, r1, r2⟩ := r; exact ⟨x, y, hx, Nows.rel wr h1 r1, Nows.rel wr h2 r2⟩
theorem Nows.rel {ι : Inj} {h : AH} {w : World} (wr : WRel ι h w) : ∀ {vs ws : List AV} {us : List Value}, Nows h vs ws → VRels ι vs us → VRels (ιφ w) ws us
  | _, _, us, .nil, r => by simpa only [VRels] using r
  | _, _, us, .cons hv hs, r => by
    simp only [VRels] at r ⊢
    obtain ⟨u, us, rfl, r1, r2⟩ := r
    exact ⟨u, us, rfl, Now.rel wr hv r1, Nows.rel wr hs r2⟩
end
/-- A call of values, with rows az they are. -/
theorem PC.at {P : Program} {f : Nat} {args args' : List AV} {v : AV} (c : PC P f args v) (hv : v.scal = true) {h : AH} (F : Nows h args' args) : ACalls P f args' h fun r h' => r = v ∧ h' = h := by
  refine ⟨(c H1).ex, fun ι w vs wr hvs => ?_⟩
  refine Calls.mono ((c H1).run (ιφ w) w vs (WRel.h1 (φW_ok w)) (Nows.rel wr F hvs)) fun e w' he => ?_
  obtain ⟨u, r, h', ι', rfl, ⟨rfl, rfl⟩, h1, h2, h3⟩ := he
  have hk : ∀ b, b < w.heap.size → w'.heap[b]? = w.heap[b]? := fun b hb => h3.keep b hb fun t c l hm => by cases hm
  refine ⟨u, _, h, ι, rfl, ⟨rfl, rfl⟩, scal_rel hv h1, ⟨fun t l ht => ⟨(wr.lt t l ht).1, Nat.lt_of_lt_of_le (wr.lt t l ht).2 h3.size⟩, fun t c hc => ⟨(wr.blk t c hc).1, (wr.blk t c hc).2.mono (Inj.le_refl _) rfl fun l hl => hk l.b (wr.lt t l hl).2⟩, wr.inj, wr.pos, wr.nil, fun b xs hb => ?_⟩,
    ⟨Nat.le_refl _, fun _ _ => rfl, h3.os, h3.tape, h3.output, h3.size, fun b hb _ => hk b hb, fun t c l hm hc hl => .inr ⟨t, c, l, hm, hc, hl, rfl⟩, fun _ _ x => x, fun _ _ x => .inl x, h3.drawn⟩⟩
  obtain ⟨⟨e, fz, hh⟩, h4⟩ := wr.phi b xs hb
  have hlt : b < w.heap.size := (Array.getElem?_eq_some_iff.1 hh).1
  exact ⟨⟨e, fz, (hk b hlt).trans hh⟩, h4⟩
end Go.Am
set_option linter.unusedVariables false
set_option linter.unusedSimpArgs false
namespace Go.Am
/-- called with such values the function yields a value of which R holds, and leaves everything az it was -/
abbrev PCR (P : Program) (f : Nat) (args : List AV) (R : AV → Prop) : Prop := ∀ h, ACalls P f args h fun r h' => R r ∧ h' = h
theorem pcr_fn {P : Program} {f : Nat} {ac : AC} {ars : List ARes} {N : Nat} (hf : fnOf P f = some (ac, ars, N)) {args : List AV} {R : AV → Prop} (ha : AV.plains args = true) (hp : ∀ v, R v → v.plain = true) (hN : args.length ≤ N)
    (hw : W P N ac (athen (Post ars fun r h => ∃ v, R v ∧ Ends v r h) (Fin (Post ars fun r h => ∃ v, R v ∧ Ends v r h))) (initSt args) H1) : PCR P f args R := fun h =>
  empty_call (R := R) ha (acalls_frz ((a_fn hf hN fun _ _ => hw).mono fun r h' ⟨v, hv, h'', F⟩ => ⟨v, h'', F, hv⟩)) hp h
end Go.Am
set_option linter.unusedVariables false
set_option linter.unusedSimpArgs false
namespace Go.Am
open Go.Proofs Go.Shelf Go.Sort
/-- a later world that differs in new blocks and draws alone -/
theorem world_grown {w w' : World} (ho : w'.os = w.os) (ht : w'.tape = w.tape) (hu : w'.output = w.output) (hs : w.heap.size ≤ w'.heap.size) (hk : ∀ b, b < w.heap.size → w'.heap[b]? = w.heap[b]?) (hd : w.drawn ≤ w'.drawn) :
    ∃ q os, w' = grow (w.drewN q) os := by
  refine ⟨w'.drawn - w.drawn, w'.heap.extract w.heap.size w'.heap.size, ?_⟩
  have hh : w'.heap = w.heap ++ w'.heap.extract w.heap.size w'.heap.size := by
    refine Array.ext_getElem? fun i => ?_
    rw [Array.getElem?_append]
    split
    · rename_i hi; exact hk i hi
    · rename_i hi
      rw [Array.getElem?_extract]
      split
      · congr 1; omega
      · rw [Array.getElem?_eq_none (by omega)]
  obtain ⟨heap, tape, drawn, os, output⟩ := w
  obtain ⟨heap', tape', drawn', os', output'⟩ := w'
  simp only at ho ht hu hd hh
  subst ho; subst ht; subst hu
  simp only [grow, World.drewN, World.mk.injEq, and_true, true_and]
  exact ⟨hh, by omega⟩
/-- nothing but new blocks -/
theorem WRel.grown {ι : Inj} {h : AH} {w w' : World} (r : WRel ι h w) (hs : w.heap.size ≤ w'.heap.size) (hk : ∀ b, b < w.heap.size → w'.heap[b]? = w.heap[b]?) : WRel ι h w' where
  lt t l ht := ⟨(r.lt t l ht).1, Nat.lt_of_lt_of_le (r.lt t l ht).2 hs⟩
  blk t c hc := ⟨(r.blk t c hc).1, (r.blk t c hc).2.mono (Inj.le_refl _) rfl fun l hl => hk l.b (r.lt t l hl).2⟩
  inj := r.inj
  pos := r.pos
  nil := r.nil
  phi b xs hb := by
    obtain ⟨⟨e, fz, hh⟩, h2⟩ := r.phi b xs hb
    have hlt : b < w.heap.size := (Array.getElem?_eq_some_iff.1 hh).1
    exact ⟨⟨e, fz, (hk b hlt).trans hh⟩, h2⟩
theorem Ext.grown {ι0 ι : Inj} {h0 h : AH} {w0 w w' : World} (x : Ext ι0 h0 w0 ι h w) (ho : w'.os = w.os) (ht : w'.tape = w.tape) (hu : w'.output = w.output) (hs : w.heap.size ≤ w'.heap.size) (hk : ∀ b, b < w.heap.size → w'.heap[b]? = w.heap[b]?) (hd : w.drawn ≤ w'.drawn) : Ext ι0 h0 w0 ι h w' :=
  ⟨x.nx, x.old, ho.trans x.os, ht.trans x.tape, hu.trans x.output, Nat.le_trans x.size hs, fun b hb hkk => (hk b (Nat.lt_of_lt_of_le hb x.size)).trans (x.keep b hb hkk), x.img, x.phi, x.new, Nat.le_trans x.drawn hd⟩
section
variable {P : Program} {ρ : Ren} {α : Type} [Inhabited α]
/-- data that fill one cell, in both worlds -/
structure Enc1 (E : α → AV) (enc : α → Value) : Prop where
  rel : ∀ (ι : Inj) x v, VRel ι (E x) v ↔ v = enc x
  one : ∀ x, (E x).one = true
  plain : ∀ x, (E x).plain = true
theorem putRow_heap (enc : α → Value) (w : World) (blk off m : Nat) (d : Array α) (os : Array Obj) {vs : Array Value} {e : TypeId} {fz : Nat × Nat} (hh : w.heap[blk]? = some (.cells vs e fz)) :
    (sortWorld enc w blk off m d os).heap[blk]? = some (.cells (putCells enc off d vs) e fz) ∧ (∀ b, b < w.heap.size → b ≠ blk → (sortWorld enc w blk off m d os).heap[b]? = w.heap[b]?) ∧ w.heap.size ≤ (sortWorld enc w blk off m d os).heap.size := by
  have hlt : blk < w.heap.size := (Array.getElem?_eq_some_iff.1 hh).1
  have hw : (sortWorld enc w blk off m d os).heap = w.heap.modify blk (onCells (putCells enc off d)) ++ os := rfl
  refine ⟨?_, fun b hb hne => ?_, ?_⟩
  · rw [hw, Array.getElem?_append_left (by simpa using hlt), Array.getElem?_modify, if_pos rfl, hh]; rfl
  · rw [hw, Array.getElem?_append_left (by simpa using hb), Array.getElem?_modify, if_neg (Ne.symm hne)]
  · rw [hw, Array.size_append, Array.size_modify]; omega
theorem set_self {h : AH} {t : Nat} {b : Blk} (hm : h.m t = some b) : h.set t b = h := by
  unfold AH.set
  have : (fun s => if s = t then some b else h.m s) = h.m := by
    funext s
    by_cases e : s = t
    · subst e; simp [hm]
    · simp [e]
  rw [this]
/-- .. at no element -/
theorem sort_none (L : SlLaysF.n6 P ρ) (g : Nat) (caps : List AV) (h : AH) (t o a : Nat) : ACalls P (ρ.f 6) [.sl t o 0 a, .fn g [] caps] h fun r h' => r = .tu [] ∧ h' = h := by
  refine ⟨?_, fun ι w vs wr hv => ?_⟩
  · obtain ⟨nm, hn, hf⟩ := L.f6
    exact ⟨_, hf, hn, rfl⟩
  simp only [VRels] at hv
  obtain ⟨sv, r1, ev, hs, fv, r2, e2, hfn, rfl⟩ := hv
  subst e2
  obtain rfl : vs = #[sv, fv] := by cases vs; simp_all
  have hslice : ∃ p cap, sv = .slice p 0 cap := by
    simp only [VRel] at hs
    rcases hs with ⟨_, x, rfl⟩ | ⟨l, cap, _, rfl, _⟩
    · exact ⟨_, _, rfl⟩
    · exact ⟨_, _, rfl⟩
  obtain ⟨p, cap, rfl⟩ := hslice
  refine Calls.mono (AnyF.slices_SortFunc_none (P := P) (ρ := ρ) { L with } p cap _ w) fun e w' ⟨he, hw⟩ => ?_
  subst hw
  exact ⟨.tuple #[], .tu [], h, ι, he, ⟨rfl, rfl⟩, by simp only [VRel]; exact ⟨#[], rfl, by simp [VRels]⟩, wr, .refl _ _ _⟩
set_option maxHeartbeats 1000000 in
/-- slices.SortFunc at elements of one cell, by a comparison that parts whatever two that are not one. -/
theorem sort_one (L : SlLaysF.n6 P ρ) {E : α → AV} {enc : α → Value} (hE : Enc1 E enc) {cf : α → α → Int} (hO : SWO (ltOf cf)) (hT : ∀ x y, (ltOf cf) x y = false → (ltOf cf) y x = false → x = y)
    {g : Nat} {caps : List AV} (hcp : AV.plains caps = true) (hc : ∀ x y, PC P g ([E x, E y] ++ caps) (.i .i64 (cf x y))) {h : AH} {t a : Nat} {d : List α} (hm : h.m t = some (.cells true (d.map E))) (hlen : d.length < 4611686018427387904) :
    ACalls P (ρ.f 6) [.sl t 0 d.length a, .fn g [] caps] h fun r h' => r = .tu [] ∧ h' = h.set t (.cells true ((d.mergeSort fun x y => !(ltOf cf) y x).map E)) := by
  refine ⟨?_, fun ι w vs wr hv => ?_⟩
  · obtain ⟨nm, hn, hf⟩ := L.f6
    exact ⟨_, hf, hn, rfl⟩
  simp only [VRels] at hv
  obtain ⟨sv, r1, ev, hs, fv, r2, e2, hfn, rfl⟩ := hv
  subst e2
  simp only [VRel] at hfn
  obtain ⟨x0, cb, rfl, hx0, hcb⟩ := hfn
  simp only [VRels] at hx0
  obtain rfl : x0 = #[] := by cases x0; simp_all
  obtain rfl : vs = #[sv, .func (.func g) #[] cb] := by cases vs; simp_all
  by_cases hd0 : d = []
  · -- nothing to sort
    subst hd0
    have hslice : ∃ p cap, sv = .slice p 0 cap := by
      simp only [VRel] at hs
      rcases hs with ⟨_, x, rfl⟩ | ⟨l, cap, _, rfl, _⟩
      · exact ⟨_, _, rfl⟩
      · exact ⟨_, _, rfl⟩
    obtain ⟨p, cap, rfl⟩ := hslice
    refine Calls.mono (AnyF.slices_SortFunc_none (P := P) (ρ := ρ) { L with } p cap _ w) fun e w' ⟨he, hw⟩ => ?_
    subst hw
    refine ⟨.tuple #[], .tu [], _, ι, he, ⟨rfl, rfl⟩, by simp only [VRel]; exact ⟨#[], rfl, by simp [VRels]⟩, ?_, ?_⟩
    · have : h.set t (.cells true ((([] : List α).mergeSort fun x y => !(ltOf cf) y x).map E)) = h := by
        unfold AH.set
        have : (fun s => if s = t then some (Blk.cells true ((([] : List α).mergeSort fun x y => !(ltOf cf) y x).map E)) else h.m s) = h.m := by
          funext s
          by_cases e : s = t
          · subst e; simp [hm]
          · simp [e]
        rw [this]
      rw [this]; exact wr
    · have : h.set t (.cells true ((([] : List α).mergeSort fun x y => !(ltOf cf) y x).map E)) = h := by
        unfold AH.set
        have : (fun s => if s = t then some (Blk.cells true ((([] : List α).mergeSort fun x y => !(ltOf cf) y x).map E)) else h.m s) = h.m := by
          funext s
          by_cases e : s = t
          · subst e; simp [hm]
          · simp [e]
        rw [this]
      rw [this]; exact .refl _ _ _
  have hdl : d.length ≠ 0 := fun e => hd0 (List.length_eq_zero_iff.1 e)
  simp only [VRel] at hs
  rcases hs with ⟨h0, _⟩ | ⟨l, cap, hl, rfl, hcap, _⟩
  · exact absurd h0 hdl
  have hb := (wr.blk t _ hm).2
  simp only [BRel] at hb
  rcases hb with ⟨he, _⟩ | ⟨l', vs, e, fz, hl', hh, h3, h4, h5, h6⟩
  · exact absurd (by simpa using he) hd0
  rw [hl] at hl'; cases hl'
  have hfz := h5 trivial
  subst hfz
  simp only [Nat.add_zero]
  have hcell : ∀ j, j < d.length → ∃ x, d[j]? = some x ∧ vs[l.sh + j]? = some (enc x) := fun j hj => by
    obtain ⟨u, hu, hr⟩ := h6 j (E d[j]) (by simp [hj])
    rw [hE.rel] at hr
    subst hr
    exact ⟨d[j], by simp [hj], hu⟩
  have hH : Holds enc w l.b l.sh d.toArray := fun j hj => by
    obtain ⟨x, hx, hc⟩ := hcell j (by simpa using hj)
    refine ⟨?_, ?_⟩
    · simp only [World.cell?, hh]
      rw [if_neg (by simp), hc]
      have : d.toArray[j]! = x := by simp [getElem!_def, hx]
      rw [this]
    · simp [World.frozen?, hh]
  have hblk : l.b < w.heap.size := (wr.lt t l hl).2
  obtain ⟨fn, hfn, hnm, hbd⟩ := (hc default default H1).ex
  have eg : ∀ args w, (callFunc g args).run P w = .ok (.enter g args) w := by
    cases hbody : fn.body with
    | none => rw [hbody] at hbd; cases hbd
    | some c => exact enters_of hfn hnm hbody
  have hcmp : CmpLays1 P g cb enc cf l.b l.sh d.toArray.size w := by
    intro m os dk hsz x y
    obtain ⟨p1, p2, p3⟩ := putRow_heap enc w l.b l.sh m dk os hh
    have hφ : ∀ b xs, ι.φ b = some xs → ∃ e fz, (sortWorld enc w l.b l.sh m dk os).heap[b]? = some (.cells xs e fz) := fun b xs hbx => by
      obtain ⟨⟨e', fz', hh'⟩, ho⟩ := wr.phi b xs hbx
      have hlt : b < w.heap.size := (Array.getElem?_eq_some_iff.1 hh').1
      exact ⟨e', fz', (p2 b hlt fun e => ho t _ l hm rfl hl e.symm).trans hh'⟩
    refine Calls.mono ((hc x y H1).run ⟨fun _ => none, ι.φ⟩ _ (#[enc x, enc y] ++ cb) (WRel.h1 hφ) ?_) fun e w' he => ?_
    · simp only [Array.toList_append]
      refine VRels.append ?_ (plains_rel (ι := ι) (ι' := ⟨fun _ => none, ι.φ⟩) (fun _ _ x => x) hcp hcb)
      simp only [VRels]
      exact ⟨_, _, rfl, (hE.rel _ _ _).2 rfl, _, _, rfl, (hE.rel _ _ _).2 rfl, rfl⟩
    · obtain ⟨v, r, h', ι', rfl, ⟨rfl, rfl⟩, q1, q2, q3⟩ := he
      simp only [VRel] at q1
      subst q1
      exact ⟨rfl, world_grown q3.os q3.tape q3.output q3.size (fun b hb => q3.keep b hb fun t c l hm => by cases hm) q3.drawn⟩
  refine Calls.mono (Any.slices_SortFunc_total L enc (fun x => ((hE.rel ι x _).2 rfl).one (hE.one x)) cf hO g cb l.b l.sh cap d.toArray w eg hcmp hH hblk (by simpa using hlen) hT) fun e' w' he => ?_
  obtain ⟨he, n, os, hw⟩ := he
  rw [List.toList_toArray] at hw
  generalize hsd : (d.mergeSort fun x y => !(ltOf cf) y x) = d' at hw ⊢
  have hlen' : d'.length = d.length := by rw [← hsd]; exact List.length_mergeSort _
  obtain ⟨p1, p2, p3⟩ := putRow_heap enc w l.b l.sh n d'.toArray os hh
  rw [← hw] at p1 p2 p3
  have hbr : BRel ι w' t (.cells true (d'.map E)) := by
    simp only [BRel]
    refine .inr ⟨l, _, e, _, hl, p1, by simp [putCells, h3], by simpa [hlen'] using h4, fun _ => rfl, fun i a ha => ?_⟩
    simp only [List.getElem?_map, Option.map_eq_some_iff] at ha
    obtain ⟨x, hx, rfl⟩ := ha
    have hi : i < d'.length := (List.getElem?_eq_some_iff.1 hx).1
    obtain ⟨_, _, hc⟩ := hcell i (by omega)
    refine ⟨enc x, ?_, (hE.rel _ _ _).2 rfl⟩
    simp only [putCells, Array.getElem?_mapIdx, hc, Option.map_some]
    rw [if_pos ⟨by omega, by simp; omega⟩]
    have : d'.toArray[l.sh + i - l.sh]! = x := by simp [getElem!_def, hx]
    rw [this]
  -- the step within the old blocks, then the new ones
  let w1 : World := { w with heap := w.heap.modify l.b (onCells (putCells enc l.sh d'.toArray)) }
  have k1 : w1.heap.size = w.heap.size := by simp [w1]
  have k2 : ∀ b, b ≠ l.b → w1.heap[b]? = w.heap[b]? := fun b hb => by simp [w1, Array.getElem?_modify, Ne.symm hb]
  have k3 : ∀ b, b < w1.heap.size → w'.heap[b]? = w1.heap[b]? := fun b hb => by
    rw [k1] at hb
    by_cases e' : b = l.b
    · subst e'
      rw [p1]
      simp only [w1, Array.getElem?_modify, if_pos, hh]; rfl
    · rw [p2 b hb e', k2 b e']
  have k4 : w1.heap.size ≤ w'.heap.size := by rw [k1]; exact p3
  have hbr1 : BRel ι w1 t (.cells true (d'.map E)) := hbr.mono (Inj.le_refl _) rfl fun l2 hl2 => by
    rw [hl] at hl2; cases hl2
    rw [k3 l.b (by rw [k1]; exact hblk)]
  have wr1 := wr.refit hm rfl hl k1 k2 hbr1
  have ex1 := (Ext.refl ι h w).refit (bk := .cells true (d'.map E)) hm rfl hl k1 k2 (Nat.le_refl _) rfl rfl rfl
  have o1 : w'.os = w1.os := by rw [hw]; rfl
  have o2 : w'.tape = w1.tape := by rw [hw]; rfl
  have o3 : w'.output = w1.output := by rw [hw]; rfl
  have o4 : w1.drawn ≤ w'.drawn := by rw [hw]; show w.drawn ≤ w.drawn + n; omega
  exact ⟨.tuple #[], .tu [], _, ι, he, ⟨rfl, rfl⟩, by simp only [VRel]; exact ⟨#[], rfl, by simp [VRels]⟩, wr1.grown k4 k3, ex1.grown o1 o2 o3 k4 k3 o4⟩
end
end Go.Am
