/- The abstract machine: the laws by which a stretch is reckoned (printed by a program), bundled. -/
import Derived.Test.YtbhkbaapfioijaaAmV
set_option linter.unusedVariables false
set_option linter.unusedSimpArgs false
namespace Go.Am
theorem rs_mv {hd : Bool} {base i : Nat} {os : List AOper} {st : St} {h : AH} {d : Option Nat} (x : AX) : runS hd base (⟨d, none, .mv x⟩ :: os) i (some (st, h)) = runS hd base os (i + 1) ((some (x.val st)).map fun v => (put d v st, h)) := rfl
theorem rg_mv {hd : Bool} {base i : Nat} {os : List AOper} {st : St} {h : AH} {d : Option Nat} {s : Nat} {w : Bool} (x : AX) : runS hd base (⟨d, some (s, w), .mv x⟩ :: os) i (some (st, h)) = match guardOf (st.get s) w with
  | none => .bad
  | some g => runS hd base os (i + 1) (if g = true then (some (x.val (stS g st))).map fun v => (put d (.gd g v) st, h) else some (put d (.gd g ((some (x.val (stS g st))).getD .un)) st, h)) := by
  cases hq : guardOf (st.get s) w <;> simp only [runS, stepU, hq, runS_none, AOp.isCall, AOp.isApp, AOp.isVal, Bool.false_eq_true, Bool.false_and, Bool.or_self, if_false, if_true] <;> rfl
theorem rs_pick {hd : Bool} {base i : Nat} {os : List AOper} {st : St} {h : AH} {d : Option Nat} (c a b : AX) : runS hd base (⟨d, none, .pick c a b⟩ :: os) i (some (st, h)) = runS hd base os (i + 1) ((AOp.ev (AX.val st) h (.pick c a b)).map fun v => (put d v st, h)) := rfl
theorem rg_pick {hd : Bool} {base i : Nat} {os : List AOper} {st : St} {h : AH} {d : Option Nat} {s : Nat} {w : Bool} (c a b : AX) : runS hd base (⟨d, some (s, w), .pick c a b⟩ :: os) i (some (st, h)) = match guardOf (st.get s) w with
  | none => .bad
  | some g => runS hd base os (i + 1) (if g = true then (AOp.ev (AX.val (stS g st)) h (.pick c a b)).map fun v => (put d (.gd g v) st, h) else some (put d (.gd g ((AOp.ev (AX.val (stS g st)) h (.pick c a b)).getD .un)) st, h)) := by
  cases hq : guardOf (st.get s) w <;> simp only [runS, stepU, hq, runS_none, AOp.isCall, AOp.isApp, AOp.isVal, Bool.false_eq_true, Bool.false_and, Bool.or_self, if_false, if_true] <;> rfl
theorem rs_bin {hd : Bool} {base i : Nat} {os : List AOper} {st : St} {h : AH} {d : Option Nat} (bt : Bool) (op : BinOp) (x y : AX) : runS hd base (⟨d, none, .bin bt op x y⟩ :: os) i (some (st, h)) = runS hd base os (i + 1) ((abin bt op (x.val st) (y.val st)).map fun v => (put d v st, h)) := rfl
theorem rg_bin {hd : Bool} {base i : Nat} {os : List AOper} {st : St} {h : AH} {d : Option Nat} {s : Nat} {w : Bool} (bt : Bool) (op : BinOp) (x y : AX) : runS hd base (⟨d, some (s, w), .bin bt op x y⟩ :: os) i (some (st, h)) = match guardOf (st.get s) w with
  | none => .bad
  | some g => runS hd base os (i + 1) (if g = true then (abin bt op (x.val (stS g st)) (y.val (stS g st))).map fun v => (put d (.gd g v) st, h) else some (put d (.gd g ((abin bt op (x.val (stS g st)) (y.val (stS g st))).getD .un)) st, h)) := by
  cases hq : guardOf (st.get s) w <;> simp only [runS, stepU, hq, runS_none, AOp.isCall, AOp.isApp, AOp.isVal, Bool.false_eq_true, Bool.false_and, Bool.or_self, if_false, if_true] <;> rfl
theorem rs_neg {hd : Bool} {base i : Nat} {os : List AOper} {st : St} {h : AH} {d : Option Nat} (x : AX) : runS hd base (⟨d, none, .neg x⟩ :: os) i (some (st, h)) = runS hd base os (i + 1) ((AOp.ev (AX.val st) h (.neg x)).map fun v => (put d v st, h)) := rfl
theorem rg_neg {hd : Bool} {base i : Nat} {os : List AOper} {st : St} {h : AH} {d : Option Nat} {s : Nat} {w : Bool} (x : AX) : runS hd base (⟨d, some (s, w), .neg x⟩ :: os) i (some (st, h)) = match guardOf (st.get s) w with
  | none => .bad
  | some g => runS hd base os (i + 1) (if g = true then (AOp.ev (AX.val (stS g st)) h (.neg x)).map fun v => (put d (.gd g v) st, h) else some (put d (.gd g ((AOp.ev (AX.val (stS g st)) h (.neg x)).getD .un)) st, h)) := by
  cases hq : guardOf (st.get s) w <;> simp only [runS, stepU, hq, runS_none, AOp.isCall, AOp.isApp, AOp.isVal, Bool.false_eq_true, Bool.false_and, Bool.or_self, if_false, if_true] <;> rfl
theorem rs_not {hd : Bool} {base i : Nat} {os : List AOper} {st : St} {h : AH} {d : Option Nat} (x : AX) : runS hd base (⟨d, none, .not x⟩ :: os) i (some (st, h)) = runS hd base os (i + 1) ((AOp.ev (AX.val st) h (.not x)).map fun v => (put d v st, h)) := rfl
theorem rg_not {hd : Bool} {base i : Nat} {os : List AOper} {st : St} {h : AH} {d : Option Nat} {s : Nat} {w : Bool} (x : AX) : runS hd base (⟨d, some (s, w), .not x⟩ :: os) i (some (st, h)) = match guardOf (st.get s) w with
  | none => .bad
  | some g => runS hd base os (i + 1) (if g = true then (AOp.ev (AX.val (stS g st)) h (.not x)).map fun v => (put d (.gd g v) st, h) else some (put d (.gd g ((AOp.ev (AX.val (stS g st)) h (.not x)).getD .un)) st, h)) := by
  cases hq : guardOf (st.get s) w <;> simp only [runS, stepU, hq, runS_none, AOp.isCall, AOp.isApp, AOp.isVal, Bool.false_eq_true, Bool.false_and, Bool.or_self, if_false, if_true] <;> rfl
theorem rs_conv {hd : Bool} {base i : Nat} {os : List AOper} {st : St} {h : AH} {d : Option Nat} (k : IntKind) (x : AX) : runS hd base (⟨d, none, .conv k x⟩ :: os) i (some (st, h)) = runS hd base os (i + 1) ((AOp.ev (AX.val st) h (.conv k x)).map fun v => (put d v st, h)) := rfl
theorem rg_conv {hd : Bool} {base i : Nat} {os : List AOper} {st : St} {h : AH} {d : Option Nat} {s : Nat} {w : Bool} (k : IntKind) (x : AX) : runS hd base (⟨d, some (s, w), .conv k x⟩ :: os) i (some (st, h)) = match guardOf (st.get s) w with
  | none => .bad
  | some g => runS hd base os (i + 1) (if g = true then (AOp.ev (AX.val (stS g st)) h (.conv k x)).map fun v => (put d (.gd g v) st, h) else some (put d (.gd g ((AOp.ev (AX.val (stS g st)) h (.conv k x)).getD .un)) st, h)) := by
  cases hq : guardOf (st.get s) w <;> simp only [runS, stepU, hq, runS_none, AOp.isCall, AOp.isApp, AOp.isVal, Bool.false_eq_true, Bool.false_and, Bool.or_self, if_false, if_true] <;> rfl
theorem rs_ext {hd : Bool} {base i : Nat} {os : List AOper} {st : St} {h : AH} {d : Option Nat} (x : AX) (j : Nat) : runS hd base (⟨d, none, .ext x j⟩ :: os) i (some (st, h)) = runS hd base os (i + 1) ((AOp.ev (AX.val st) h (.ext x j)).map fun v => (put d v st, h)) := rfl
theorem rg_ext {hd : Bool} {base i : Nat} {os : List AOper} {st : St} {h : AH} {d : Option Nat} {s : Nat} {w : Bool} (x : AX) (j : Nat) : runS hd base (⟨d, some (s, w), .ext x j⟩ :: os) i (some (st, h)) = match guardOf (st.get s) w with
  | none => .bad
  | some g => runS hd base os (i + 1) (if g = true then (AOp.ev (AX.val (stS g st)) h (.ext x j)).map fun v => (put d (.gd g v) st, h) else some (put d (.gd g ((AOp.ev (AX.val (stS g st)) h (.ext x j)).getD .un)) st, h)) := by
  cases hq : guardOf (st.get s) w <;> simp only [runS, stepU, hq, runS_none, AOp.isCall, AOp.isApp, AOp.isVal, Bool.false_eq_true, Bool.false_and, Bool.or_self, if_false, if_true] <;> rfl
theorem rs_fa {hd : Bool} {base i : Nat} {os : List AOper} {st : St} {h : AH} {d : Option Nat} (x : AX) (o : Nat) : runS hd base (⟨d, none, .fa x o⟩ :: os) i (some (st, h)) = runS hd base os (i + 1) ((AOp.ev (AX.val st) h (.fa x o)).map fun v => (put d v st, h)) := rfl
theorem rg_fa {hd : Bool} {base i : Nat} {os : List AOper} {st : St} {h : AH} {d : Option Nat} {s : Nat} {w : Bool} (x : AX) (o : Nat) : runS hd base (⟨d, some (s, w), .fa x o⟩ :: os) i (some (st, h)) = match guardOf (st.get s) w with
  | none => .bad
  | some g => runS hd base os (i + 1) (if g = true then (AOp.ev (AX.val (stS g st)) h (.fa x o)).map fun v => (put d (.gd g v) st, h) else some (put d (.gd g ((AOp.ev (AX.val (stS g st)) h (.fa x o)).getD .un)) st, h)) := by
  cases hq : guardOf (st.get s) w <;> simp only [runS, stepU, hq, runS_none, AOp.isCall, AOp.isApp, AOp.isVal, Bool.false_eq_true, Bool.false_and, Bool.or_self, if_false, if_true] <;> rfl
theorem rs_fld {hd : Bool} {base i : Nat} {os : List AOper} {st : St} {h : AH} {d : Option Nat} (x : AX) (o : Nat) (n : Option Nat) : runS hd base (⟨d, none, .fld x o n⟩ :: os) i (some (st, h)) = runS hd base os (i + 1) ((AOp.ev (AX.val st) h (.fld x o n)).map fun v => (put d v st, h)) := rfl
theorem rg_fld {hd : Bool} {base i : Nat} {os : List AOper} {st : St} {h : AH} {d : Option Nat} {s : Nat} {w : Bool} (x : AX) (o : Nat) (n : Option Nat) : runS hd base (⟨d, some (s, w), .fld x o n⟩ :: os) i (some (st, h)) = match guardOf (st.get s) w with
  | none => .bad
  | some g => runS hd base os (i + 1) (if g = true then (AOp.ev (AX.val (stS g st)) h (.fld x o n)).map fun v => (put d (.gd g v) st, h) else some (put d (.gd g ((AOp.ev (AX.val (stS g st)) h (.fld x o n)).getD .un)) st, h)) := by
  cases hq : guardOf (st.get s) w <;> simp only [runS, stepU, hq, runS_none, AOp.isCall, AOp.isApp, AOp.isVal, Bool.false_eq_true, Bool.false_and, Bool.or_self, if_false, if_true] <;> rfl
theorem rs_ia {hd : Bool} {base i : Nat} {os : List AOper} {st : St} {h : AH} {d : Option Nat} (k : Nat) (x y : AX) : runS hd base (⟨d, none, .ia k x y⟩ :: os) i (some (st, h)) = runS hd base os (i + 1) ((AOp.ev (AX.val st) h (.ia k x y)).map fun v => (put d v st, h)) := rfl
theorem rg_ia {hd : Bool} {base i : Nat} {os : List AOper} {st : St} {h : AH} {d : Option Nat} {s : Nat} {w : Bool} (k : Nat) (x y : AX) : runS hd base (⟨d, some (s, w), .ia k x y⟩ :: os) i (some (st, h)) = match guardOf (st.get s) w with
  | none => .bad
  | some g => runS hd base os (i + 1) (if g = true then (AOp.ev (AX.val (stS g st)) h (.ia k x y)).map fun v => (put d (.gd g v) st, h) else some (put d (.gd g ((AOp.ev (AX.val (stS g st)) h (.ia k x y)).getD .un)) st, h)) := by
  cases hq : guardOf (st.get s) w <;> simp only [runS, stepU, hq, runS_none, AOp.isCall, AOp.isApp, AOp.isVal, Bool.false_eq_true, Bool.false_and, Bool.or_self, if_false, if_true] <;> rfl
theorem rs_iap {hd : Bool} {base i : Nat} {os : List AOper} {st : St} {h : AH} {d : Option Nat} (n k : Nat) (x y : AX) : runS hd base (⟨d, none, .iap n k x y⟩ :: os) i (some (st, h)) = runS hd base os (i + 1) ((AOp.ev (AX.val st) h (.iap n k x y)).map fun v => (put d v st, h)) := rfl
theorem rg_iap {hd : Bool} {base i : Nat} {os : List AOper} {st : St} {h : AH} {d : Option Nat} {s : Nat} {w : Bool} (n k : Nat) (x y : AX) : runS hd base (⟨d, some (s, w), .iap n k x y⟩ :: os) i (some (st, h)) = match guardOf (st.get s) w with
  | none => .bad
  | some g => runS hd base os (i + 1) (if g = true then (AOp.ev (AX.val (stS g st)) h (.iap n k x y)).map fun v => (put d (.gd g v) st, h) else some (put d (.gd g ((AOp.ev (AX.val (stS g st)) h (.iap n k x y)).getD .un)) st, h)) := by
  cases hq : guardOf (st.get s) w <;> simp only [runS, stepU, hq, runS_none, AOp.isCall, AOp.isApp, AOp.isVal, Bool.false_eq_true, Bool.false_and, Bool.or_self, if_false, if_true] <;> rfl
theorem rs_iv {hd : Bool} {base i : Nat} {os : List AOper} {st : St} {h : AH} {d : Option Nat} (n k : Nat) (b : Bool) (x y : AX) : runS hd base (⟨d, none, .iv n k b x y⟩ :: os) i (some (st, h)) = runS hd base os (i + 1) ((AOp.ev (AX.val st) h (.iv n k b x y)).map fun v => (put d v st, h)) := rfl
theorem rg_iv {hd : Bool} {base i : Nat} {os : List AOper} {st : St} {h : AH} {d : Option Nat} {s : Nat} {w : Bool} (n k : Nat) (b : Bool) (x y : AX) : runS hd base (⟨d, some (s, w), .iv n k b x y⟩ :: os) i (some (st, h)) = match guardOf (st.get s) w with
  | none => .bad
  | some g => runS hd base os (i + 1) (if g = true then (AOp.ev (AX.val (stS g st)) h (.iv n k b x y)).map fun v => (put d (.gd g v) st, h) else some (put d (.gd g ((AOp.ev (AX.val (stS g st)) h (.iv n k b x y)).getD .un)) st, h)) := by
  cases hq : guardOf (st.get s) w <;> simp only [runS, stepU, hq, runS_none, AOp.isCall, AOp.isApp, AOp.isVal, Bool.false_eq_true, Bool.false_and, Bool.or_self, if_false, if_true] <;> rfl
theorem rs_sli {hd : Bool} {base i : Nat} {os : List AOper} {st : St} {h : AH} {d : Option Nat} (k : Nat) (x : AX) (lo hi : Option AX) : runS hd base (⟨d, none, .sli k x lo hi⟩ :: os) i (some (st, h)) = runS hd base os (i + 1) ((AOp.ev (AX.val st) h (.sli k x lo hi)).map fun v => (put d v st, h)) := rfl
theorem rg_sli {hd : Bool} {base i : Nat} {os : List AOper} {st : St} {h : AH} {d : Option Nat} {s : Nat} {w : Bool} (k : Nat) (x : AX) (lo hi : Option AX) : runS hd base (⟨d, some (s, w), .sli k x lo hi⟩ :: os) i (some (st, h)) = match guardOf (st.get s) w with
  | none => .bad
  | some g => runS hd base os (i + 1) (if g = true then (AOp.ev (AX.val (stS g st)) h (.sli k x lo hi)).map fun v => (put d (.gd g v) st, h) else some (put d (.gd g ((AOp.ev (AX.val (stS g st)) h (.sli k x lo hi)).getD .un)) st, h)) := by
  cases hq : guardOf (st.get s) w <;> simp only [runS, stepU, hq, runS_none, AOp.isCall, AOp.isApp, AOp.isVal, Bool.false_eq_true, Bool.false_and, Bool.or_self, if_false, if_true] <;> rfl
theorem rs_slp {hd : Bool} {base i : Nat} {os : List AOper} {st : St} {h : AH} {d : Option Nat} (n k : Nat) (x : AX) (lo hi : Option AX) : runS hd base (⟨d, none, .slp n k x lo hi⟩ :: os) i (some (st, h)) = runS hd base os (i + 1) ((AOp.ev (AX.val st) h (.slp n k x lo hi)).map fun v => (put d v st, h)) := rfl
theorem rg_slp {hd : Bool} {base i : Nat} {os : List AOper} {st : St} {h : AH} {d : Option Nat} {s : Nat} {w : Bool} (n k : Nat) (x : AX) (lo hi : Option AX) : runS hd base (⟨d, some (s, w), .slp n k x lo hi⟩ :: os) i (some (st, h)) = match guardOf (st.get s) w with
  | none => .bad
  | some g => runS hd base os (i + 1) (if g = true then (AOp.ev (AX.val (stS g st)) h (.slp n k x lo hi)).map fun v => (put d (.gd g v) st, h) else some (put d (.gd g ((AOp.ev (AX.val (stS g st)) h (.slp n k x lo hi)).getD .un)) st, h)) := by
  cases hq : guardOf (st.get s) w <;> simp only [runS, stepU, hq, runS_none, AOp.isCall, AOp.isApp, AOp.isVal, Bool.false_eq_true, Bool.false_and, Bool.or_self, if_false, if_true] <;> rfl
theorem rs_nck {hd : Bool} {base i : Nat} {os : List AOper} {st : St} {h : AH} {d : Option Nat} (x : AX) : runS hd base (⟨d, none, .nck x⟩ :: os) i (some (st, h)) = runS hd base os (i + 1) ((AOp.ev (AX.val st) h (.nck x)).map fun v => (put d v st, h)) := rfl
theorem rg_nck {hd : Bool} {base i : Nat} {os : List AOper} {st : St} {h : AH} {d : Option Nat} {s : Nat} {w : Bool} (x : AX) : runS hd base (⟨d, some (s, w), .nck x⟩ :: os) i (some (st, h)) = match guardOf (st.get s) w with
  | none => .bad
  | some g => runS hd base os (i + 1) (if g = true then (AOp.ev (AX.val (stS g st)) h (.nck x)).map fun v => (put d (.gd g v) st, h) else some (put d (.gd g ((AOp.ev (AX.val (stS g st)) h (.nck x)).getD .un)) st, h)) := by
  cases hq : guardOf (st.get s) w <;> simp only [runS, stepU, hq, runS_none, AOp.isCall, AOp.isApp, AOp.isVal, Bool.false_eq_true, Bool.false_and, Bool.or_self, if_false, if_true] <;> rfl
theorem rs_bld {hd : Bool} {base i : Nat} {os : List AOper} {st : St} {h : AH} {d : Option Nat} (z : List AV) (ps : List (Nat × Nat × AX)) : runS hd base (⟨d, none, .bld z ps⟩ :: os) i (some (st, h)) = runS hd base os (i + 1) ((AOp.ev (AX.val st) h (.bld z ps)).map fun v => (put d v st, h)) := rfl
theorem rg_bld {hd : Bool} {base i : Nat} {os : List AOper} {st : St} {h : AH} {d : Option Nat} {s : Nat} {w : Bool} (z : List AV) (ps : List (Nat × Nat × AX)) : runS hd base (⟨d, some (s, w), .bld z ps⟩ :: os) i (some (st, h)) = match guardOf (st.get s) w with
  | none => .bad
  | some g => runS hd base os (i + 1) (if g = true then (AOp.ev (AX.val (stS g st)) h (.bld z ps)).map fun v => (put d (.gd g v) st, h) else some (put d (.gd g ((AOp.ev (AX.val (stS g st)) h (.bld z ps)).getD .un)) st, h)) := by
  cases hq : guardOf (st.get s) w <;> simp only [runS, stepU, hq, runS_none, AOp.isCall, AOp.isApp, AOp.isVal, Bool.false_eq_true, Bool.false_and, Bool.or_self, if_false, if_true] <;> rfl
theorem rs_len {hd : Bool} {base i : Nat} {os : List AOper} {st : St} {h : AH} {d : Option Nat} (x : AX) : runS hd base (⟨d, none, .len x⟩ :: os) i (some (st, h)) = runS hd base os (i + 1) ((AOp.ev (AX.val st) h (.len x)).map fun v => (put d v st, h)) := rfl
theorem rg_len {hd : Bool} {base i : Nat} {os : List AOper} {st : St} {h : AH} {d : Option Nat} {s : Nat} {w : Bool} (x : AX) : runS hd base (⟨d, some (s, w), .len x⟩ :: os) i (some (st, h)) = match guardOf (st.get s) w with
  | none => .bad
  | some g => runS hd base os (i + 1) (if g = true then (AOp.ev (AX.val (stS g st)) h (.len x)).map fun v => (put d (.gd g v) st, h) else some (put d (.gd g ((AOp.ev (AX.val (stS g st)) h (.len x)).getD .un)) st, h)) := by
  cases hq : guardOf (st.get s) w <;> simp only [runS, stepU, hq, runS_none, AOp.isCall, AOp.isApp, AOp.isVal, Bool.false_eq_true, Bool.false_and, Bool.or_self, if_false, if_true] <;> rfl
theorem rs_mm {hd : Bool} {base i : Nat} {os : List AOper} {st : St} {h : AH} {d : Option Nat} (mx : Bool) (x : AX) (xs : List AX) : runS hd base (⟨d, none, .mm mx x xs⟩ :: os) i (some (st, h)) = runS hd base os (i + 1) ((amm mx (x.val st) (xs.map (AX.val st))).map fun v => (put d v st, h)) := rfl
theorem rg_mm {hd : Bool} {base i : Nat} {os : List AOper} {st : St} {h : AH} {d : Option Nat} {s : Nat} {w : Bool} (mx : Bool) (x : AX) (xs : List AX) : runS hd base (⟨d, some (s, w), .mm mx x xs⟩ :: os) i (some (st, h)) = match guardOf (st.get s) w with
  | none => .bad
  | some g => runS hd base os (i + 1) (if g = true then (amm mx (x.val (stS g st)) (xs.map (AX.val (stS g st)))).map fun v => (put d (.gd g v) st, h) else some (put d (.gd g ((amm mx (x.val (stS g st)) (xs.map (AX.val (stS g st)))).getD .un)) st, h)) := by
  cases hq : guardOf (st.get s) w <;> simp only [runS, stepU, hq, runS_none, AOp.isCall, AOp.isApp, AOp.isVal, Bool.false_eq_true, Bool.false_and, Bool.or_self, if_false, if_true] <;> rfl
theorem rs_mkf {hd : Bool} {base i : Nat} {os : List AOper} {st : St} {h : AH} {d : Option Nat} (f : Nat) (a b : List AX) : runS hd base (⟨d, none, .mkf f a b⟩ :: os) i (some (st, h)) = runS hd base os (i + 1) ((some (.fn f (a.map (AX.val st)) (b.map (AX.val st)))).map fun v => (put d v st, h)) := rfl
theorem rg_mkf {hd : Bool} {base i : Nat} {os : List AOper} {st : St} {h : AH} {d : Option Nat} {s : Nat} {w : Bool} (f : Nat) (a b : List AX) : runS hd base (⟨d, some (s, w), .mkf f a b⟩ :: os) i (some (st, h)) = match guardOf (st.get s) w with
  | none => .bad
  | some g => runS hd base os (i + 1) (if g = true then (some (.fn f (a.map (AX.val (stS g st))) (b.map (AX.val (stS g st))))).map fun v => (put d (.gd g v) st, h) else some (put d (.gd g ((some (.fn f (a.map (AX.val (stS g st))) (b.map (AX.val (stS g st))))).getD .un)) st, h)) := by
  cases hq : guardOf (st.get s) w <;> simp only [runS, stepU, hq, runS_none, AOp.isCall, AOp.isApp, AOp.isVal, Bool.false_eq_true, Bool.false_and, Bool.or_self, if_false, if_true] <;> rfl
theorem rs_eqn {hd : Bool} {base i : Nat} {os : List AOper} {st : St} {h : AH} {d : Option Nat} (ng : Bool) (x y : AX) : runS hd base (⟨d, none, .eqn ng x y⟩ :: os) i (some (st, h)) = runS hd base os (i + 1) ((AOp.ev (AX.val st) h (.eqn ng x y)).map fun v => (put d v st, h)) := rfl
theorem rg_eqn {hd : Bool} {base i : Nat} {os : List AOper} {st : St} {h : AH} {d : Option Nat} {s : Nat} {w : Bool} (ng : Bool) (x y : AX) : runS hd base (⟨d, some (s, w), .eqn ng x y⟩ :: os) i (some (st, h)) = match guardOf (st.get s) w with
  | none => .bad
  | some g => runS hd base os (i + 1) (if g = true then (AOp.ev (AX.val (stS g st)) h (.eqn ng x y)).map fun v => (put d (.gd g v) st, h) else some (put d (.gd g ((AOp.ev (AX.val (stS g st)) h (.eqn ng x y)).getD .un)) st, h)) := by
  cases hq : guardOf (st.get s) w <;> simp only [runS, stepU, hq, runS_none, AOp.isCall, AOp.isApp, AOp.isVal, Bool.false_eq_true, Bool.false_and, Bool.or_self, if_false, if_true] <;> rfl
theorem rs_eqa {hd : Bool} {base i : Nat} {os : List AOper} {st : St} {h : AH} {d : Option Nat} (ng : Bool) (ks : List Nat) (x y : AX) : runS hd base (⟨d, none, .eqa ng ks x y⟩ :: os) i (some (st, h)) = runS hd base os (i + 1) ((AOp.ev (AX.val st) h (.eqa ng ks x y)).map fun v => (put d v st, h)) := rfl
theorem rg_eqa {hd : Bool} {base i : Nat} {os : List AOper} {st : St} {h : AH} {d : Option Nat} {s : Nat} {w : Bool} (ng : Bool) (ks : List Nat) (x y : AX) : runS hd base (⟨d, some (s, w), .eqa ng ks x y⟩ :: os) i (some (st, h)) = match guardOf (st.get s) w with
  | none => .bad
  | some g => runS hd base os (i + 1) (if g = true then (AOp.ev (AX.val (stS g st)) h (.eqa ng ks x y)).map fun v => (put d (.gd g v) st, h) else some (put d (.gd g ((AOp.ev (AX.val (stS g st)) h (.eqa ng ks x y)).getD .un)) st, h)) := by
  cases hq : guardOf (st.get s) w <;> simp only [runS, stepU, hq, runS_none, AOp.isCall, AOp.isApp, AOp.isVal, Bool.false_eq_true, Bool.false_and, Bool.or_self, if_false, if_true] <;> rfl
theorem rs_eqs {hd : Bool} {base i : Nat} {os : List AOper} {st : St} {h : AH} {d : Option Nat} (ng : Bool) (x y : AX) : runS hd base (⟨d, none, .eqs ng x y⟩ :: os) i (some (st, h)) = runS hd base os (i + 1) ((AOp.ev (AX.val st) h (.eqs ng x y)).map fun v => (put d v st, h)) := rfl
theorem rg_eqs {hd : Bool} {base i : Nat} {os : List AOper} {st : St} {h : AH} {d : Option Nat} {s : Nat} {w : Bool} (ng : Bool) (x y : AX) : runS hd base (⟨d, some (s, w), .eqs ng x y⟩ :: os) i (some (st, h)) = match guardOf (st.get s) w with
  | none => .bad
  | some g => runS hd base os (i + 1) (if g = true then (AOp.ev (AX.val (stS g st)) h (.eqs ng x y)).map fun v => (put d (.gd g v) st, h) else some (put d (.gd g ((AOp.ev (AX.val (stS g st)) h (.eqs ng x y)).getD .un)) st, h)) := by
  cases hq : guardOf (st.get s) w <;> simp only [runS, stepU, hq, runS_none, AOp.isCall, AOp.isApp, AOp.isVal, Bool.false_eq_true, Bool.false_and, Bool.or_self, if_false, if_true] <;> rfl
theorem rs_str {hd : Bool} {base i : Nat} {os : List AOper} {st : St} {h : AH} {d : Option Nat} (x : AX) : runS hd base (⟨d, none, .str x⟩ :: os) i (some (st, h)) = runS hd base os (i + 1) ((AOp.ev (AX.val st) h (.str x)).map fun v => (put d v st, h)) := rfl
theorem rg_str {hd : Bool} {base i : Nat} {os : List AOper} {st : St} {h : AH} {d : Option Nat} {s : Nat} {w : Bool} (x : AX) : runS hd base (⟨d, some (s, w), .str x⟩ :: os) i (some (st, h)) = match guardOf (st.get s) w with
  | none => .bad
  | some g => runS hd base os (i + 1) (if g = true then (AOp.ev (AX.val (stS g st)) h (.str x)).map fun v => (put d (.gd g v) st, h) else some (put d (.gd g ((AOp.ev (AX.val (stS g st)) h (.str x)).getD .un)) st, h)) := by
  cases hq : guardOf (st.get s) w <;> simp only [runS, stepU, hq, runS_none, AOp.isCall, AOp.isApp, AOp.isVal, Bool.false_eq_true, Bool.false_and, Bool.or_self, if_false, if_true] <;> rfl
theorem rs_sl3 {hd : Bool} {base i : Nat} {os : List AOper} {st : St} {h : AH} {d : Option Nat} (k : Nat) (x : AX) (lo : Option AX) (hi m : AX) : runS hd base (⟨d, none, .sl3 k x lo hi m⟩ :: os) i (some (st, h)) = runS hd base os (i + 1) ((AOp.ev (AX.val st) h (.sl3 k x lo hi m)).map fun v => (put d v st, h)) := rfl
theorem rg_sl3 {hd : Bool} {base i : Nat} {os : List AOper} {st : St} {h : AH} {d : Option Nat} {s : Nat} {w : Bool} (k : Nat) (x : AX) (lo : Option AX) (hi m : AX) : runS hd base (⟨d, some (s, w), .sl3 k x lo hi m⟩ :: os) i (some (st, h)) = match guardOf (st.get s) w with
  | none => .bad
  | some g => runS hd base os (i + 1) (if g = true then (AOp.ev (AX.val (stS g st)) h (.sl3 k x lo hi m)).map fun v => (put d (.gd g v) st, h) else some (put d (.gd g ((AOp.ev (AX.val (stS g st)) h (.sl3 k x lo hi m)).getD .un)) st, h)) := by
  cases hq : guardOf (st.get s) w <;> simp only [runS, stepU, hq, runS_none, AOp.isCall, AOp.isApp, AOp.isVal, Bool.false_eq_true, Bool.false_and, Bool.or_self, if_false, if_true] <;> rfl
theorem rs_ld {hd : Bool} {base i : Nat} {os : List AOper} {st : St} {h : AH} {d : Option Nat} (n : Option Nat) (x : AX) : runS hd base (⟨d, none, .ld n x⟩ :: os) i (some (st, h)) = runS hd base os (i + 1) ((AOp.ev (AX.val st) h (.ld n x)).map fun v => (put d v st, h)) := rfl
theorem rg_ld {hd : Bool} {base i : Nat} {os : List AOper} {st : St} {h : AH} {d : Option Nat} {s : Nat} {w : Bool} (n : Option Nat) (x : AX) : runS hd base (⟨d, some (s, w), .ld n x⟩ :: os) i (some (st, h)) = match guardOf (st.get s) w with
  | none => .bad
  | some g => runS hd base os (i + 1) (if g = true then (AOp.ev (AX.val (stS g st)) h (.ld n x)).map fun v => (put d (.gd g v) st, h) else some (put d (.gd g ((AOp.ev (AX.val (stS g st)) h (.ld n x)).getD .un)) st, h)) := by
  cases hq : guardOf (st.get s) w <;> simp only [runS, stepU, hq, runS_none, AOp.isCall, AOp.isApp, AOp.isVal, Bool.false_eq_true, Bool.false_and, Bool.or_self, if_false, if_true] <;> rfl
theorem rs_mlk {hd : Bool} {base i : Nat} {os : List AOper} {st : St} {h : AH} {d : Option Nat} (kk : Option (List Nat)) (z : AV) (ok : Bool) (x k : AX) : runS hd base (⟨d, none, .mlk kk z ok x k⟩ :: os) i (some (st, h)) = runS hd base os (i + 1) ((AOp.ev (AX.val st) h (.mlk kk z ok x k)).map fun v => (put d v st, h)) := rfl
theorem rg_mlk {hd : Bool} {base i : Nat} {os : List AOper} {st : St} {h : AH} {d : Option Nat} {s : Nat} {w : Bool} (kk : Option (List Nat)) (z : AV) (ok : Bool) (x k : AX) : runS hd base (⟨d, some (s, w), .mlk kk z ok x k⟩ :: os) i (some (st, h)) = match guardOf (st.get s) w with
  | none => .bad
  | some g => runS hd base os (i + 1) (if g = true then (AOp.ev (AX.val (stS g st)) h (.mlk kk z ok x k)).map fun v => (put d (.gd g v) st, h) else some (put d (.gd g ((AOp.ev (AX.val (stS g st)) h (.mlk kk z ok x k)).getD .un)) st, h)) := by
  cases hq : guardOf (st.get s) w <;> simp only [runS, stepU, hq, runS_none, AOp.isCall, AOp.isApp, AOp.isVal, Bool.false_eq_true, Bool.false_and, Bool.or_self, if_false, if_true] <;> rfl
theorem rs_mln {hd : Bool} {base i : Nat} {os : List AOper} {st : St} {h : AH} {d : Option Nat} (x : AX) : runS hd base (⟨d, none, .mln x⟩ :: os) i (some (st, h)) = runS hd base os (i + 1) ((AOp.ev (AX.val st) h (.mln x)).map fun v => (put d v st, h)) := rfl
theorem rg_mln {hd : Bool} {base i : Nat} {os : List AOper} {st : St} {h : AH} {d : Option Nat} {s : Nat} {w : Bool} (x : AX) : runS hd base (⟨d, some (s, w), .mln x⟩ :: os) i (some (st, h)) = match guardOf (st.get s) w with
  | none => .bad
  | some g => runS hd base os (i + 1) (if g = true then (AOp.ev (AX.val (stS g st)) h (.mln x)).map fun v => (put d (.gd g v) st, h) else some (put d (.gd g ((AOp.ev (AX.val (stS g st)) h (.mln x)).getD .un)) st, h)) := by
  cases hq : guardOf (st.get s) w <;> simp only [runS, stepU, hq, runS_none, AOp.isCall, AOp.isApp, AOp.isVal, Bool.false_eq_true, Bool.false_and, Bool.or_self, if_false, if_true] <;> rfl
theorem rs_box {hd : Bool} {base i : Nat} {os : List AOper} {st : St} {h : AH} {d : Option Nat} (x : AX) : runS hd base (⟨d, none, .box x⟩ :: os) i (some (st, h)) = runS hd base os (i + 1) ((AOp.al (AX.val st) (base + i) (.box x)).map fun p => (put d p.1 st, h.set (base + i) (.cells true p.2))) := rfl
theorem rg_box {hd : Bool} {base i : Nat} {os : List AOper} {st : St} {h : AH} {d : Option Nat} {s : Nat} {w : Bool} (x : AX) : runS hd base (⟨d, some (s, w), .box x⟩ :: os) i (some (st, h)) = match guardOf (st.get s) w with
  | none => .bad
  | some g => runS hd base os (i + 1) (if g = true then (AOp.al (AX.val (stS g st)) (base + i) (.box x)).map fun p => (put d (.gd g p.1) st, h.set (base + i) (.cells true p.2)) else some (put d (.gd g .un) st, h)) := by
  cases hq : guardOf (st.get s) w <;> simp only [runS, stepU, hq, runS_none, AOp.isCall, AOp.isApp, AOp.isVal, AOp.isAl, Bool.false_eq_true, Bool.false_and, Bool.or_self, if_false, if_true] <;> rfl
theorem rs_alloc {hd : Bool} {base i : Nat} {os : List AOper} {st : St} {h : AH} {d : Option Nat} (z : List AV) : runS hd base (⟨d, none, .alloc z⟩ :: os) i (some (st, h)) = runS hd base os (i + 1) ((AOp.al (AX.val st) (base + i) (.alloc z)).map fun p => (put d p.1 st, h.set (base + i) (.cells true p.2))) := rfl
theorem rg_alloc {hd : Bool} {base i : Nat} {os : List AOper} {st : St} {h : AH} {d : Option Nat} {s : Nat} {w : Bool} (z : List AV) : runS hd base (⟨d, some (s, w), .alloc z⟩ :: os) i (some (st, h)) = match guardOf (st.get s) w with
  | none => .bad
  | some g => runS hd base os (i + 1) (if g = true then (AOp.al (AX.val (stS g st)) (base + i) (.alloc z)).map fun p => (put d (.gd g p.1) st, h.set (base + i) (.cells true p.2)) else some (put d (.gd g .un) st, h)) := by
  cases hq : guardOf (st.get s) w <;> simp only [runS, stepU, hq, runS_none, AOp.isCall, AOp.isApp, AOp.isVal, AOp.isAl, Bool.false_eq_true, Bool.false_and, Bool.or_self, if_false, if_true] <;> rfl
theorem rs_bsl {hd : Bool} {base i : Nat} {os : List AOper} {st : St} {h : AH} {d : Option Nat} (k : Nat) (z : List AV) (ps : List (Nat × Nat × AX)) : runS hd base (⟨d, none, .bsl k z ps⟩ :: os) i (some (st, h)) = runS hd base os (i + 1) ((AOp.al (AX.val st) (base + i) (.bsl k z ps)).map fun p => (put d p.1 st, h.set (base + i) (.cells true p.2))) := rfl
theorem rg_bsl {hd : Bool} {base i : Nat} {os : List AOper} {st : St} {h : AH} {d : Option Nat} {s : Nat} {w : Bool} (k : Nat) (z : List AV) (ps : List (Nat × Nat × AX)) : runS hd base (⟨d, some (s, w), .bsl k z ps⟩ :: os) i (some (st, h)) = match guardOf (st.get s) w with
  | none => .bad
  | some g => runS hd base os (i + 1) (if g = true then (AOp.al (AX.val (stS g st)) (base + i) (.bsl k z ps)).map fun p => (put d (.gd g p.1) st, h.set (base + i) (.cells true p.2)) else some (put d (.gd g .un) st, h)) := by
  cases hq : guardOf (st.get s) w <;> simp only [runS, stepU, hq, runS_none, AOp.isCall, AOp.isApp, AOp.isVal, AOp.isAl, Bool.false_eq_true, Bool.false_and, Bool.or_self, if_false, if_true] <;> rfl
theorem rs_mks {hd : Bool} {base i : Nat} {os : List AOper} {st : St} {h : AH} {d : Option Nat} (k b : Nat) (z : List AV) (x y : AX) : runS hd base (⟨d, none, .mks k b z x y⟩ :: os) i (some (st, h)) = runS hd base os (i + 1) ((AOp.al (AX.val st) (base + i) (.mks k b z x y)).map fun p => (put d p.1 st, h.set (base + i) (.cells true p.2))) := rfl
theorem rg_mks {hd : Bool} {base i : Nat} {os : List AOper} {st : St} {h : AH} {d : Option Nat} {s : Nat} {w : Bool} (k b : Nat) (z : List AV) (x y : AX) : runS hd base (⟨d, some (s, w), .mks k b z x y⟩ :: os) i (some (st, h)) = match guardOf (st.get s) w with
  | none => .bad
  | some g => runS hd base os (i + 1) (if g = true then (AOp.al (AX.val (stS g st)) (base + i) (.mks k b z x y)).map fun p => (put d (.gd g p.1) st, h.set (base + i) (.cells true p.2)) else some (put d (.gd g .un) st, h)) := by
  cases hq : guardOf (st.get s) w <;> simp only [runS, stepU, hq, runS_none, AOp.isCall, AOp.isApp, AOp.isVal, AOp.isAl, Bool.false_eq_true, Bool.false_and, Bool.or_self, if_false, if_true] <;> rfl
theorem rs_sto {hd : Bool} {base i : Nat} {os : List AOper} {st : St} {h : AH} {d : Option Nat} (n : Option Nat) (x v : AX) : runS hd base (⟨d, none, .sto n x v⟩ :: os) i (some (st, h)) = runS hd base os (i + 1) ((h.sto n (x.val st) (v.val st)).map fun h' => (put d .un st, h')) := rfl
theorem rs_app {base i : Nat} {os : List AOper} {st : St} {h : AH} {d : Option Nat} (k b : Nat) (x y : AX) : runS false base (⟨d, none, .app k b x y⟩ :: os) i (some (st, h)) = runS false base os (i + 1) ((h.app k b (base + i) (x.val st) (y.val st)).map fun p => (put d p.1 st, p.2)) := rfl
theorem rs_call {hd : Bool} {base i : Nat} {os : List AOper} {st : St} {h : AH} {d : Option Nat} {g : Option (Nat × Bool)} (f : AX) (xs : List AX) : runS hd base (⟨d, g, .call f xs⟩ :: os) i (some (st, h)) = .call ⟨d, g, .call f xs⟩ os i st h := rfl
theorem rs_nil {hd : Bool} {base i : Nat} {st : St} {h : AH} : runS hd base [] i (some (st, h)) = .done st h := rfl
theorem rs_apph {base i : Nat} {os : List AOper} {st : St} {h : AH} {d : Option Nat} {g : Option (Nat × Bool)} (k b : Nat) (x y : AX) : runS true base (⟨d, g, .app k b x y⟩ :: os) i (some (st, h)) = .call ⟨d, g, .app k b x y⟩ os i st h := rfl
theorem rs_byt {hd : Bool} {base i : Nat} {os : List AOper} {st : St} {h : AH} {d : Option Nat} (x : AX) : runS hd base (⟨d, none, .byt x⟩ :: os) i (some (st, h)) = runS hd base os (i + 1) (stepA (base + i) d (.byt x) st h) := rfl
theorem rs_cvt {hd : Bool} {base i : Nat} {os : List AOper} {st : St} {h : AH} {d : Option Nat} (x : AX) : runS hd base (⟨d, none, .cvt x⟩ :: os) i (some (st, h)) = runS hd base os (i + 1) (stepA (base + i) d (.cvt x) st h) := rfl
theorem rs_mkm {hd : Bool} {base i : Nat} {os : List AOper} {st : St} {h : AH} {d : Option Nat} : runS hd base (⟨d, none, .mkm⟩ :: os) i (some (st, h)) = runS hd base os (i + 1) (stepA (base + i) d .mkm st h) := rfl
theorem rs_mup {hd : Bool} {base i : Nat} {os : List AOper} {st : St} {h : AH} {d : Option Nat} (kk : Option (List Nat)) (x k v : AX) : runS hd base (⟨d, none, .mup kk x k v⟩ :: os) i (some (st, h)) = runS hd base os (i + 1) (stepA (base + i) d (.mup kk x k v) st h) := rfl
theorem rg_cvt {hd : Bool} {base i : Nat} {os : List AOper} {st : St} {h : AH} {d : Option Nat} {s : Nat} {w : Bool} (x : AX) : runS hd base (⟨d, some (s, w), .cvt x⟩ :: os) i (some (st, h)) = match guardOf (st.get s) w with
  | none => .bad
  | some g => runS hd base os (i + 1) (if g = true then stepA (base + i) d (.cvt x) (stS true st) h else some (put d (.gd g .un) st, h)) := by
  cases hq : guardOf (st.get s) w <;> simp only [runS, stepU, hq, runS_none, AOp.isCall, AOp.isApp, AOp.isVal, AOp.isAl, Bool.false_eq_true, Bool.false_and, Bool.or_self, if_false, if_true] <;> rfl
theorem rg_sto {hd : Bool} {base i : Nat} {os : List AOper} {st : St} {h : AH} {d : Option Nat} {s : Nat} {w : Bool} (n : Option Nat) (x v : AX) : runS hd base (⟨d, some (s, w), .sto n x v⟩ :: os) i (some (st, h)) = match guardOf (st.get s) w with
  | none => .bad
  | some g => runS hd base os (i + 1) (if g = true then stepA (base + i) d (.sto n x v) (stS true st) h else some (put d (.gd g .un) st, h)) := by
  cases hq : guardOf (st.get s) w <;> simp only [runS, stepU, hq, runS_none, AOp.isCall, AOp.isApp, AOp.isVal, AOp.isAl, Bool.false_eq_true, Bool.false_and, Bool.or_self, if_false, if_true] <;> rfl
theorem rg_byt {hd : Bool} {base i : Nat} {os : List AOper} {st : St} {h : AH} {d : Option Nat} {s : Nat} {w : Bool} (x : AX) : runS hd base (⟨d, some (s, w), .byt x⟩ :: os) i (some (st, h)) = match guardOf (st.get s) w with
  | none => .bad
  | some g => runS hd base os (i + 1) (if g = true then stepA (base + i) d (.byt x) (stS true st) h else some (put d (.gd g .un) st, h)) := by
  cases hq : guardOf (st.get s) w <;> simp only [runS, stepU, hq, runS_none, AOp.isCall, AOp.isApp, AOp.isVal, AOp.isAl, Bool.false_eq_true, Bool.false_and, Bool.or_self, if_false, if_true] <;> rfl
theorem rg_mkm {hd : Bool} {base i : Nat} {os : List AOper} {st : St} {h : AH} {d : Option Nat} {s : Nat} {w : Bool}  : runS hd base (⟨d, some (s, w), .mkm ⟩ :: os) i (some (st, h)) = match guardOf (st.get s) w with
  | none => .bad
  | some g => runS hd base os (i + 1) (if g = true then stepA (base + i) d (.mkm ) (stS true st) h else some (put d (.gd g .un) st, h)) := by
  cases hq : guardOf (st.get s) w <;> simp only [runS, stepU, hq, runS_none, AOp.isCall, AOp.isApp, AOp.isVal, AOp.isAl, Bool.false_eq_true, Bool.false_and, Bool.or_self, if_false, if_true] <;> rfl
theorem rg_mup {hd : Bool} {base i : Nat} {os : List AOper} {st : St} {h : AH} {d : Option Nat} {s : Nat} {w : Bool} (kk : Option (List Nat)) (x k v : AX) : runS hd base (⟨d, some (s, w), .mup kk x k v⟩ :: os) i (some (st, h)) = match guardOf (st.get s) w with
  | none => .bad
  | some g => runS hd base os (i + 1) (if g = true then stepA (base + i) d (.mup kk x k v) (stS true st) h else some (put d (.gd g .un) st, h)) := by
  cases hq : guardOf (st.get s) w <;> simp only [runS, stepU, hq, runS_none, AOp.isCall, AOp.isApp, AOp.isVal, AOp.isAl, Bool.false_eq_true, Bool.false_and, Bool.or_self, if_false, if_true] <;> rfl
theorem rg_app {base i : Nat} {os : List AOper} {st : St} {h : AH} {d : Option Nat} {s : Nat} {w : Bool} (k b : Nat) (x y : AX) : runS false base (⟨d, some (s, w), .app k b x y⟩ :: os) i (some (st, h)) = match guardOf (st.get s) w with
  | none => .bad
  | some g => runS false base os (i + 1) (if g = true then stepA (base + i) d (.app k b x y) (stS true st) h else some (put d (.gd g .un) st, h)) := by
  cases hq : guardOf (st.get s) w <;> simp only [runS, stepU, hq, runS_none, AOp.isCall, AOp.isApp, AOp.isVal, AOp.isAl, Bool.false_eq_true, Bool.and_false, Bool.or_self, if_false, if_true] <;> rfl
theorem rs_eqz {hd : Bool} {base i : Nat} {os : List AOper} {st : St} {h : AH} {d : Option Nat} {g : Option (Nat × Bool)} (ng : Bool) (x : AX) : runS hd base (⟨d, g, .eqz ng x⟩ :: os) i (some (st, h)) = .call ⟨d, g, .eqz ng x⟩ os i st h := rfl

theorem al_box (ρ : AX → AV) (tok : Nat) (x : AX) : AOp.al ρ tok (.box x) = if (ρ x).known then some (.p tok 0, (ρ x).cells) else none := rfl
theorem al_alloc (ρ : AX → AV) (tok : Nat) (z : List AV) : AOp.al ρ tok (.alloc z) = some (.p tok 0, z) := rfl
theorem al_bsl (ρ : AX → AV) (tok k : Nat) (z : List AV) (ps : List (Nat × Nat × AX)) : AOp.al ρ tok (.bsl k z ps) = (afill ρ z ps).map fun cs => (if z.length = 0 then .sl 0 0 0 k else .sl tok 0 (if k = 0 then 0 else z.length / k) k, cs) := rfl
theorem al_mks (ρ : AX → AV) (tok k b : Nat) (z : List AV) (x y : AX) : AOp.al ρ tok (.mks k b z x y) = match ρ x, ρ y with
    | .i .i64 n, .i .i64 c => if 0 ≤ n ∧ n ≤ c ∧ c ≤ 281474976710656 ∧ b * c ≤ 281474976710656 then some (.sl tok 0 n.toNat k, (List.replicate n.toNat z).flatten) else none
    | _, _ => none := rfl
theorem sa_byt (tok : Nat) (d : Option Nat) (x : AX) (st : St) (h : AH) : stepA tok d (.byt x) st h = match x.val st with
    | .s b => some (put d (.sl tok 0 b.size 0) st, h.set tok (.frz (bcells b)))
    | _ => none := rfl
theorem set_row_frz (h : AH) (t : Nat) (cs : List AV) : (h.set t (.frz cs)).row t = some cs := by simp [AH.row, AH.set]
theorem read_set_frz (h : AH) (t : Nat) (cs : List AV) (o : Nat) (n : Option Nat) : (h.set t (.frz cs)).read t o n = rd cs o n := by simp [AH.read, AH.row, AH.set]
theorem sa_sto (tok : Nat) (d : Option Nat) (n : Option Nat) (x v : AX) (st : St) (h : AH) : stepA tok d (.sto n x v) st h = (h.sto n (x.val st) (v.val st)).map fun h' => (put d .un st, h') := rfl
theorem sa_app (tok : Nat) (d : Option Nat) (k b : Nat) (x y : AX) (st : St) (h : AH) : stepA tok d (.app k b x y) st h = (h.app k b tok (x.val st) (y.val st)).map fun p => (put d p.1 st, p.2) := rfl
theorem qpp_vs (h : AH) (k bytes tok t o n a m : Nat) (c2 : List AV) : h.qpp k bytes tok (.sl t o n a) (.vs m c2) = match h.elems k (.vs m c2) with
    | some ys => if t = 0 ∧ n = 0 ∧ ys.all AV.one ∧ k ≠ 0 ∧ n + m ≤ 140737488355328 ∧ (n + m) * bytes ≤ 140737488355328 then some (.sl tok 0 m k, ys) else none
    | none => none := by unfold AH.qpp; simp only [AV.sln]; cases h.elems k (.vs m c2) <;> rfl
theorem app_vs (h : AH) (k bytes tok t o n a m : Nat) (c2 : List AV) : h.app k bytes tok (.sl t o n a) (.vs m c2) = match h.elems k (.vs m c2) with
    | some ys =>
      if ys.all AV.one ∧ k ≠ 0 ∧ n + m ≤ 140737488355328 ∧ (n + m) * bytes ≤ 140737488355328 then
        if t = 0 then (if n = 0 then some (.sl tok 0 m k, h.set tok (.cells true ys)) else none)
        else match h.m t with
          | some (.cells true cs) => if a = k ∧ o + n * k = cs.length then some (.sl tok 0 (n + m) k, (h.kill t).set tok (.cells true (cs.drop o ++ ys))) else none
          | _ => none
      else none
    | none => none := by unfold AH.app; simp only [AV.sln]; cases h.elems k (.vs m c2) <;> rfl
theorem qpp_sl (h : AH) (k bytes tok t o n a t2 o2 m a2 : Nat) : h.qpp k bytes tok (.sl t o n a) (.sl t2 o2 m a2) = match h.elems k (.sl t2 o2 m a2) with
    | some ys => if t = 0 ∧ n = 0 ∧ ys.all AV.one ∧ k ≠ 0 ∧ n + m ≤ 140737488355328 ∧ (n + m) * bytes ≤ 140737488355328 then some (.sl tok 0 m k, ys) else none
    | none => none := by unfold AH.qpp; simp only [AV.sln]; cases h.elems k (.sl t2 o2 m a2) <;> rfl
theorem sa_mkm (tok : Nat) (d : Option Nat) (st : St) (h : AH) : stepA tok d .mkm st h = some (put d (.mp tok) st, h.set tok (.map [])) := rfl
theorem sa_mup (tok : Nat) (d : Option Nat) (kk : Option (List Nat)) (x k v : AX) (st : St) (h : AH) : stepA tok d (.mup kk x k v) st h = (h.mup kk (x.val st) (k.val st) (v.val st)).map fun h' => (put d .un st, h') := rfl
/-- a map's block looked up, written, counted -/
def mlkB (kk : Option (List Nat)) (z : AV) (ok : Bool) (k : AV) : Blk → Option AV
  | .map es => if kq kk k k = some true then (match mfind kk k es 0 with
        | some (some (_, v)) => some (if ok then .tu [v, .b true] else v)
        | some none => some (if ok then .tu [z, .b false] else z)
        | none => none) else none
  | _ => none
def mupB (kk : Option (List Nat)) (k v : AV) : Blk → Option Blk
  | .map es => if kq kk k k = some true then (mput kk k v es).map .map else none
  | _ => none
def mlnB : Blk → Option AV
  | .map es => some (.i .i64 es.length)
  | _ => none
theorem ev_mlk (ρ : AX → AV) (H : AH) (kk : Option (List Nat)) (z : AV) (ok : Bool) (x k : AX) : AOp.ev ρ H (.mlk kk z ok x k) = match ρ x with
    | .nilm => if kq kk (ρ k) (ρ k) = some true then some (if ok then .tu [z, .b false] else z) else none
    | .mp t => (H.m t).bind (mlkB kk z ok (ρ k))
    | _ => none := by
  simp only [AOp.ev]
  cases ρ x <;> simp only
  rename_i t
  rcases H.m t with _ | ⟨w, cs⟩ | cs | es <;> rfl
theorem ev_mln (ρ : AX → AV) (H : AH) (x : AX) : AOp.ev ρ H (.mln x) = match ρ x with
    | .nilm => some (.i .i64 0)
    | .mp t => (H.m t).bind mlnB
    | _ => none := by
  simp only [AOp.ev]
  cases ρ x <;> simp only
  rename_i t
  rcases H.m t with _ | ⟨w, cs⟩ | cs | es <;> rfl
theorem mup_mp (H : AH) (kk : Option (List Nat)) (t : Nat) (k v : AV) : H.mup kk (.mp t) k v = (H.m t).bind fun b => (mupB kk k v b).map (H.set t) := by
  simp only [AH.mup]
  rcases H.m t with _ | ⟨w, cs⟩ | cs | es <;> try rfl
  simp only [Option.bind_some, mupB]
  split
  · cases mput kk k v es <;> rfl
  · rfl
theorem bind_some {α β : Type} (f : α → Option β) (x : α) : (some x).bind f = f x := rfl
theorem sa_cvt (tok : Nat) (d : Option Nat) (x : AX) (st : St) (h : AH) : stepA tok d (.cvt x) st h = (h.cvt (x.val st)).map fun h' => (put d (x.val st) st, h') := rfl
theorem cvt_sl (h : AH) (t o n a : Nat) : h.cvt (.sl t o n a) = if n = 0 then none else match h.m t with
    | some (.cells true cs) => some (h.set t (.frz cs))
    | _ => none := rfl
theorem read_plus_same (hb h : AH) (t : Nat) (ts : List Nat) (o : Nat) (n : Option Nat) : (hb.plus h (t :: ts)).read t o n = h.read t o n := by simp [AH.read, AH.row, AH.plus]
theorem read_plus_ne {hb h : AH} {t s : Nat} (e : s ≠ t) (ts : List Nat) (o : Nat) (n : Option Nat) : (hb.plus h (t :: ts)).read s o n = (hb.plus h ts).read s o n := by simp [AH.read, AH.row, AH.plus, e]
theorem plus_nil (hb h : AH) : hb.plus h [] = hb := rfl
theorem firstTok_nil : firstTok [] = none := rfl
theorem firstTok_sl {t o n a : Nat} (h : n ≠ 0) (r : List AV) : firstTok (.sl t o n a :: r) = some t := by simp only [firstTok, if_neg h]
theorem firstTok_sl0 {t o a : Nat} (r : List AV) : firstTok (.sl t o 0 a :: r) = firstTok r := rfl
theorem firstTok_i (k : IntKind) (x : Int) (r : List AV) : firstTok (.i k x :: r) = firstTok r := rfl
theorem firstTok_b (x : Bool) (r : List AV) : firstTok (.b x :: r) = firstTok r := rfl
theorem firstTok_ag (x : List AV) (r : List AV) : firstTok (.ag x :: r) = firstTok r := rfl
theorem firstTok_vs (n : Nat) (cs : List AV) (r : List AV) : firstTok (.vs n cs :: r) = firstTok r := rfl
theorem firstTok_pv (cs : List AV) (o : Nat) (r : List AV) : firstTok (.pv cs o :: r) = firstTok r := rfl
theorem firstTok_p (t o : Nat) (r : List AV) : firstTok (.p t o :: r) = firstTok r := rfl
theorem firstTok_s (x : ByteArray) (r : List AV) : firstTok (.s x :: r) = firstTok r := rfl
theorem ev_eqa (ρ : AX → AV) (H : AH) (ng : Bool) (ks : List Nat) (x y : AX) : AOp.ev ρ H (.eqa ng ks x y) = match ρ x, ρ y with
    | .ag cs, .ag ds => (aeq ks cs ds).map fun b => .b (b != ng)
    | _, _ => none := rfl
theorem ev_eqs (ρ : AX → AV) (H : AH) (ng : Bool) (x y : AX) : AOp.ev ρ H (.eqs ng x y) = match ρ x, ρ y with
    | .s a, .s b => some (.b ((a.toList == b.toList) != ng))
    | _, _ => none := rfl
theorem ev_str (ρ : AX → AV) (H : AH) (x : AX) : AOp.ev ρ H (.str x) = match ρ x with
    | .sl t o n _ => if n = 0 then some (.s ByteArray.empty) else match H.row t with
      | some cs => if o + n ≤ cs.length then (abytes ((cs.drop o).take n)).map fun l => .s ⟨l.toArray⟩ else none
      | none => none
    | .vs n cs => if n = cs.length then (abytes cs).map fun l => .s ⟨l.toArray⟩ else none
    | _ => none := rfl
theorem ev_sl3 (ρ : AX → AV) (H : AH) (k : Nat) (x : AX) (lo : Option AX) (hi mx : AX) : AOp.ev ρ H (.sl3 k x lo hi mx) = match ρ x with
    | .sl t o n a => match bound ρ 0 lo, bound ρ n (some hi), bound ρ n (some mx) with
      | some l, some h, some m => if l ≤ h ∧ h ≤ m ∧ m ≤ n then (if m = l then some (.sl 0 0 0 0) else some (.sl t (o + l * k) (h - l) (if a = k then k else 0))) else none
      | _, _, _ => none
    | .vs n cs => match bound ρ 0 lo, bound ρ n (some hi), bound ρ n (some mx) with
      | some l, some h, some m => if l ≤ h ∧ h ≤ m ∧ m ≤ n ∧ m = l then some (.sl 0 0 0 0) else none
      | _, _, _ => none
    | _ => none := rfl
theorem aeq_n : aeq [] [] [] = some true := rfl
theorem aeq_ci (ks : List Nat) (k : IntKind) (a b : Int) (r s : List AV) : aeq (0 :: ks) (.i k a :: r) (.i k b :: s) = (aeq ks r s).map (decide (a = b) && ·) := by simp [aeq]
theorem aeq_cb (ks : List Nat) (a b : Bool) (r s : List AV) : aeq (1 :: ks) (.b a :: r) (.b b :: s) = (aeq ks r s).map ((a == b) && ·) := rfl
theorem aeq_cs (ks : List Nat) (a b : ByteArray) (r s : List AV) : aeq (2 :: ks) (.s a :: r) (.s b :: s) = (aeq ks r s).map ((a.toList == b.toList) && ·) := rfl
theorem val_t (st : St) (n : Nat) : AX.val st (.t n) = st.get n := rfl
theorem val_c (st : St) (v : AV) : AX.val st (.c v) = v := rfl
theorem get_cons (d : Nat) (v : AV) (r : St) (t : Nat) : St.get ((d, v) :: r) t = if t = d then v else St.get r t := rfl
theorem get_nil (t : Nat) : St.get [] t = .un := rfl
theorem put_some (d : Nat) (v : AV) (st : St) : put (some d) v st = (d, v) :: st := rfl
theorem put_none (v : AV) (st : St) : put none v st = st := rfl
theorem known_b (x : Bool) : AV.known (.b x) = true := rfl
theorem known_i (k : IntKind) (x : Int) : AV.known (.i k x) = true := rfl
theorem known_s (x : ByteArray) : AV.known (.s x) = true := rfl
theorem known_p (t o : Nat) : AV.known (.p t o) = true := rfl
theorem known_n : AV.known .nilp = true := rfl
theorem known_sl (t o n a : Nat) : AV.known (.sl t o n a) = true := rfl
theorem known_fn (f : Nat) (a b : List AV) : AV.known (.fn f a b) = true := rfl
theorem known_nf : AV.known .nilf = true := rfl
theorem known_mp (t : Nat) : AV.known (.mp t) = true := rfl
theorem known_nm : AV.known .nilm = true := rfl
theorem known_vs (n : Nat) (cs : List AV) : AV.known (.vs n cs) = true := rfl
theorem known_pv (cs : List AV) (o : Nat) : AV.known (.pv cs o) = true := rfl
theorem cells_vs (n : Nat) (cs : List AV) : AV.cells (.vs n cs) = [.vs n cs] := rfl
theorem cells_pv (cs : List AV) (o : Nat) : AV.cells (.pv cs o) = [.pv cs o] := rfl
theorem one_vs (n : Nat) (cs : List AV) : AV.one (.vs n cs) = true := rfl
theorem one_pv (cs : List AV) (o : Nat) : AV.one (.pv cs o) = true := rfl
theorem isNil_pv (cs : List AV) (o : Nat) : isNil (.pv cs o) = some false := rfl
theorem elems_vs (h : AH) (k m : Nat) (cs : List AV) : h.elems k (.vs m cs) = if m * k = cs.length then some cs else none := rfl
theorem known_ag (cs : List AV) : AV.known (.ag cs) = true := rfl
theorem known_tu (cs : List AV) : AV.known (.tu cs) = true := rfl
theorem cells_b (x : Bool) : AV.cells (.b x) = [.b x] := rfl
theorem cells_i (k : IntKind) (x : Int) : AV.cells (.i k x) = [.i k x] := rfl
theorem cells_s (x : ByteArray) : AV.cells (.s x) = [.s x] := rfl
theorem cells_p (t o : Nat) : AV.cells (.p t o) = [.p t o] := rfl
theorem cells_n : AV.cells .nilp = [.nilp] := rfl
theorem cells_sl (t o n a : Nat) : AV.cells (.sl t o n a) = [.sl t o n a] := rfl
theorem cells_fn (f : Nat) (a b : List AV) : AV.cells (.fn f a b) = [.fn f a b] := rfl
theorem cells_nf : AV.cells .nilf = [.nilf] := rfl
theorem cells_mp (t : Nat) : AV.cells (.mp t) = [.mp t] := rfl
theorem cells_nm : AV.cells .nilm = [.nilm] := rfl
theorem cells_ag (cs : List AV) : AV.cells (.ag cs) = cs := rfl
theorem one_b (x : Bool) : AV.one (.b x) = true := rfl
theorem one_i (k : IntKind) (x : Int) : AV.one (.i k x) = true := rfl
theorem one_s (x : ByteArray) : AV.one (.s x) = true := rfl
theorem one_p (t o : Nat) : AV.one (.p t o) = true := rfl
theorem one_n : AV.one .nilp = true := rfl
theorem one_sl (t o n a : Nat) : AV.one (.sl t o n a) = true := rfl
theorem one_fn (f : Nat) (a b : List AV) : AV.one (.fn f a b) = true := rfl
theorem one_nf : AV.one .nilf = true := rfl
theorem one_mp (t : Nat) : AV.one (.mp t) = true := rfl
theorem one_nm : AV.one .nilm = true := rfl
theorem rd_none (cs : List AV) (o : Nat) : rd cs o none = cs[o]? := rfl
theorem rd_some (x : AV) (cs : List AV) (o n : Nat) : rd (x :: cs) o (some n) = if o + n ≤ (x :: cs).length then some (.ag (((x :: cs).drop o).take n)) else none := rfl
theorem wrt_none (cs : List AV) (o : Nat) (x : AV) : wrt cs o x none = if x.one ∧ o < cs.length then some (cs.set o x) else none := rfl
theorem wrt_some (cs : List AV) (o n : Nat) (x : AV) : wrt cs o x (some n) = if x.known ∧ x.cells.all AV.one ∧ x.cells.length = n ∧ o + n ≤ cs.length then some (cs.take o ++ (x.cells ++ cs.drop (o + n))) else none := rfl
theorem abin_i (bt : Bool) (op : BinOp) (k : IntKind) (a b : Int) : abin bt op (.i k a) (.i k b) = aint op k a b := by simp [abin]
theorem abin_shl (bt : Bool) (k k' : IntKind) (a b : Int) : abin bt .shl (.i k a) (.i k' b) = aint .shl k a b := by simp [abin]
theorem abin_shr (bt : Bool) (k k' : IntKind) (a b : Int) : abin bt .shr (.i k a) (.i k' b) = aint .shr k a b := by simp [abin]
theorem abin_beq (a b : Bool) : abin true .eql (.b a) (.b b) = some (.b (a == b)) := rfl
theorem abin_bne (a b : Bool) : abin true .neq (.b a) (.b b) = some (.b (a != b)) := rfl
theorem aint_add (k : IntKind) (x y : Int) : aint .add k x y = some (.i k (k.wrap (x + y))) := rfl
theorem aint_sub (k : IntKind) (x y : Int) : aint .sub k x y = some (.i k (k.wrap (x - y))) := rfl
theorem aint_mul (k : IntKind) (x y : Int) : aint .mul k x y = some (.i k (k.wrap (x * y))) := rfl
theorem aint_quo (k : IntKind) (x y : Int) : aint .quo k x y = if y = 0 then none else some (.i k (k.wrap (x.tdiv y))) := rfl
theorem aint_rem (k : IntKind) (x y : Int) : aint .rem k x y = if y = 0 then none else some (.i k (x.tmod y)) := rfl
theorem aint_and (k : IntKind) (x y : Int) : aint .and k x y = some (.i k (abits .and k x y)) := rfl
theorem aint_or (k : IntKind) (x y : Int) : aint .or k x y = some (.i k (abits .or k x y)) := rfl
theorem aint_xor (k : IntKind) (x y : Int) : aint .xor k x y = some (.i k (abits .xor k x y)) := rfl
theorem aint_andNot (k : IntKind) (x y : Int) : aint .andNot k x y = some (.i k (abits .andNot k x y)) := rfl
theorem aint_shl (k : IntKind) (x y : Int) : aint .shl k x y = if 0 ≤ y then some (.i k (k.wrap (x * 2 ^ (min y.toNat k.bits)))) else none := rfl
theorem aint_shr (k : IntKind) (x y : Int) : aint .shr k x y = if 0 ≤ y then some (.i k (x.fdiv (2 ^ (min y.toNat k.bits)))) else none := rfl
theorem aint_eql (k : IntKind) (x y : Int) : aint .eql k x y = some (.b (decide (x = y))) := rfl
theorem aint_neq (k : IntKind) (x y : Int) : aint .neq k x y = some (.b (!decide (x = y))) := rfl
theorem aint_lss (k : IntKind) (x y : Int) : aint .lss k x y = some (.b (decide (x < y))) := rfl
theorem aint_leq (k : IntKind) (x y : Int) : aint .leq k x y = some (.b (decide (x ≤ y))) := rfl
theorem aint_gtr (k : IntKind) (x y : Int) : aint .gtr k x y = some (.b (decide (y < x))) := rfl
theorem aint_geq (k : IntKind) (x y : Int) : aint .geq k x y = some (.b (decide (y ≤ x))) := rfl
theorem isNil_n : isNil .nilp = some true := rfl
theorem isNil_p (t o : Nat) : isNil (.p t o) = some false := rfl
theorem bound_none (ρ : AX → AV) (d : Nat) : bound ρ d none = some d := rfl
theorem bound_some (ρ : AX → AV) (d : Nat) (x : AX) : bound ρ d (some x) = match ρ x with
    | .i _ n => if 0 ≤ n then some n.toNat else none
    | _ => none := rfl
theorem afill_nil (ρ : AX → AV) (cs : List AV) : afill ρ cs [] = some cs := rfl
theorem afill_cons (ρ : AX → AV) (cs : List AV) (off n : Nat) (x : AX) (r : List (Nat × Nat × AX)) : afill ρ cs ((off, n, x) :: r) = if (ρ x).known ∧ (ρ x).cells.length = n ∧ off + n ≤ cs.length then afill ρ (cs.take off ++ ((ρ x).cells ++ cs.drop (off + n))) r else none := rfl
theorem sto_p (h : AH) (n : Option Nat) (t o : Nat) (v : AV) : h.sto n (.p t o) v = match h.m t with
    | some (.cells true cs) => (wrt cs o v n).map fun cs' => h.set t (.cells true cs')
    | _ => none := rfl
theorem elems_sl (h : AH) (k t o m a : Nat) : h.elems k (.sl t o m a) = if m = 0 then some [] else match h.row t with
    | some cs => if o + m * k ≤ cs.length then some ((cs.drop o).take (m * k)) else none
    | none => none := rfl
theorem app_sl (h : AH) (k bytes tok t o n a t2 o2 m a2 : Nat) : h.app k bytes tok (.sl t o n a) (.sl t2 o2 m a2) = match h.elems k (.sl t2 o2 m a2) with
    | some ys =>
      if ys.all AV.one ∧ k ≠ 0 ∧ n + m ≤ 140737488355328 ∧ (n + m) * bytes ≤ 140737488355328 then
        if t = 0 then (if n = 0 then some (.sl tok 0 m k, h.set tok (.cells true ys)) else none)
        else match h.m t with
          | some (.cells true cs) => if a = k ∧ o + n * k = cs.length then some (.sl tok 0 (n + m) k, (h.kill t).set tok (.cells true (cs.drop o ++ ys))) else none
          | _ => none
      else none
    | none => none := by unfold AH.app; simp only [AV.sln]; cases h.elems k (.sl t2 o2 m a2) <;> rfl
theorem amm_nil (mx : Bool) (v : AV) : amm mx v [] = some v := by unfold amm; rfl
theorem amm_max (k : IntKind) (x y : Int) (r : List AV) : amm true (.i k x) (.i k y :: r) = amm true (.i k (max x y)) r := by
  simp only [amm, if_true]; congr 1; congr 1; simp only [Int.max_def]; split <;> split <;> omega
theorem amm_min (k : IntKind) (x y : Int) (r : List AV) : amm false (.i k x) (.i k y :: r) = amm false (.i k (min x y)) r := by
  simp only [amm, if_true, Bool.false_eq_true, if_false]; congr 1; congr 1; simp only [Int.min_def]; split <;> split <;> omega
theorem guard_gt (g b : Bool) : guardOf (.gd g (.b b)) true = some (g && b) := by cases g <;> cases b <;> rfl
theorem guard_gf (g b : Bool) : guardOf (.gd g (.b b)) false = some (g && !b) := by cases g <;> cases b <;> rfl
theorem strip_and (g b : Bool) (v : AV) : strip (g && b) (.gd g v) = v := by cases g <;> cases b <;> rfl
theorem strip_nest (g x y : Bool) : strip x (strip g (.gd (g && x) (.b y))) = .b y := by cases g <;> cases x <;> rfl
theorem strip_nest2 (g x y : Bool) : strip (!x) (strip g (.gd (g && !x) (.b y))) = .b y := by cases g <;> cases x <;> rfl
theorem strip_nest3 (g x : Bool) (k : IntKind) (y : Int) : strip x (strip g (.gd (g && x) (.i k y))) = .i k y := by cases g <;> cases x <;> rfl
theorem strip_nest4 (g x : Bool) (k : IntKind) (y : Int) : strip (!x) (strip g (.gd (g && !x) (.i k y))) = .i k y := by cases g <;> cases x <;> rfl
theorem strip_two_b (g x : Bool) (y : Bool) : strip x (strip g (.gd x (.b y))) = .b y := by cases g <;> cases x <;> rfl
theorem strip_two_i (g x : Bool) (k : IntKind) (y : Int) : strip x (strip g (.gd x (.i k y))) = .i k y := by cases g <;> cases x <;> rfl
theorem strip_two_p (g x : Bool) (t o : Nat) : strip x (strip g (.gd x (.p t o))) = .p t o := by cases g <;> cases x <;> rfl
theorem strip_two_pv (g x : Bool) (cs : List AV) (o : Nat) : strip x (strip g (.gd x (.pv cs o))) = .pv cs o := by cases g <;> cases x <;> rfl
theorem strip_two_sl (g x : Bool) (t o n a : Nat) : strip x (strip g (.gd x (.sl t o n a))) = .sl t o n a := by cases g <;> cases x <;> rfl
theorem strip_two_vs (g x : Bool) (n : Nat) (cs : List AV) : strip x (strip g (.gd x (.vs n cs))) = .vs n cs := by cases g <;> cases x <;> rfl
theorem strip_two_ag (g x : Bool) (cs : List AV) : strip x (strip g (.gd x (.ag cs))) = .ag cs := by cases g <;> cases x <;> rfl
theorem strip_tt (v : AV) : strip true (.gd true v) = v := rfl
theorem wrapu8 {n : Int} (h1 : 0 ≤ n) (h2 : n ≤ 255) : IntKind.u8.wrap n = n := IntWalk.u8_in n ⟨h1, h2⟩
theorem wrapu64 {n : Int} (h1 : 0 ≤ n) (h2 : n ≤ 18446744073709551615) : IntKind.u64.wrap n = n := IntWalk.u64_in n ⟨h1, h2⟩
theorem getD_some (v w : AV) : (some v).getD w = v := rfl
theorem ite_same {α : Type} (p : Prop) [Decidable p] (x : α) : (if p then x else x) = x := by split <;> rfl
theorem map_some {α β : Type} (f : α → β) (x : α) : (some x).map f = some (f x) := rfl
theorem map_none {α β : Type} (f : α → β) : (none : Option α).map f = none := rfl
theorem lm_nil {α β : Type} (f : α → β) : [].map f = [] := rfl
theorem lm_cons {α β : Type} (f : α → β) (x : α) (xs : List α) : (x :: xs).map f = f x :: xs.map f := rfl
theorem wrap_cond (k : IntKind) (p : Prop) [Decidable p] (x y : Int) : k.wrap (if p then x else y) = if p then k.wrap x else k.wrap y := by split <;> rfl

theorem EV0 : (type_of% @rs_mv) ∧ (type_of% @rg_mv) ∧ (type_of% @rs_pick) ∧ (type_of% @rg_pick) ∧ (type_of% @rs_bin) ∧ (type_of% @rg_bin) ∧ (type_of% @rs_neg) ∧ (type_of% @rg_neg) ∧ (type_of% @rs_not) ∧ (type_of% @rg_not) ∧ (type_of% @rs_conv) ∧ (type_of% @rg_conv) ∧ (type_of% @rs_ext) ∧ (type_of% @rg_ext) ∧ (type_of% @rs_fa) ∧ (type_of% @rg_fa) ∧ (type_of% @rs_fld) ∧ (type_of% @rg_fld) ∧ (type_of% @rs_ia) ∧ (type_of% @rg_ia) ∧ (type_of% @rs_iap) ∧ (type_of% @rg_iap) ∧ (type_of% @rs_iv) ∧ (type_of% @rg_iv) ∧ (type_of% @rs_sli) ∧ (type_of% @rg_sli) ∧ (type_of% @rs_slp) ∧ (type_of% @rg_slp) ∧ (type_of% @rs_nck) ∧ (type_of% @rg_nck) ∧ (type_of% @rs_bld) ∧ (type_of% @rg_bld) ∧ (type_of% @rs_len) ∧ (type_of% @rg_len) ∧ (type_of% @rs_mm) ∧ (type_of% @rg_mm) ∧ (type_of% @rs_mkf) ∧ (type_of% @rg_mkf) ∧ (type_of% @rs_eqn) ∧ (type_of% @rg_eqn) := ⟨@rs_mv, @rg_mv, @rs_pick, @rg_pick, @rs_bin, @rg_bin, @rs_neg, @rg_neg, @rs_not, @rg_not, @rs_conv, @rg_conv, @rs_ext, @rg_ext, @rs_fa, @rg_fa, @rs_fld, @rg_fld, @rs_ia, @rg_ia, @rs_iap, @rg_iap, @rs_iv, @rg_iv, @rs_sli, @rg_sli, @rs_slp, @rg_slp, @rs_nck, @rg_nck, @rs_bld, @rg_bld, @rs_len, @rg_len, @rs_mm, @rg_mm, @rs_mkf, @rg_mkf, @rs_eqn, @rg_eqn⟩
theorem EV1 : (type_of% @rs_eqa) ∧ (type_of% @rg_eqa) ∧ (type_of% @rs_eqs) ∧ (type_of% @rg_eqs) ∧ (type_of% @rs_str) ∧ (type_of% @rg_str) ∧ (type_of% @rs_sl3) ∧ (type_of% @rg_sl3) ∧ (type_of% @rs_ld) ∧ (type_of% @rg_ld) ∧ (type_of% @rs_mlk) ∧ (type_of% @rg_mlk) ∧ (type_of% @rs_mln) ∧ (type_of% @rg_mln) ∧ (type_of% @rs_box) ∧ (type_of% @rg_box) ∧ (type_of% @rs_alloc) ∧ (type_of% @rg_alloc) ∧ (type_of% @rs_bsl) ∧ (type_of% @rg_bsl) ∧ (type_of% @rs_mks) ∧ (type_of% @rg_mks) ∧ (type_of% @rs_cvt) ∧ (type_of% @rs_mkm) ∧ (type_of% @rs_mup) ∧ (type_of% @rg_cvt) ∧ (type_of% @rg_sto) ∧ (type_of% @rg_byt) ∧ (type_of% @rg_mkm) ∧ (type_of% @rg_mup) ∧ (type_of% @rs_eqz) ∧ (type_of% @rs_sto) ∧ (type_of% @rs_app) ∧ (type_of% @rs_call) ∧ (type_of% @rs_nil) ∧ (type_of% @rs_apph) ∧ (type_of% @rs_byt) ∧ (type_of% @rg_app) ∧ (type_of% @al_box) ∧ (type_of% @al_alloc) := ⟨@rs_eqa, @rg_eqa, @rs_eqs, @rg_eqs, @rs_str, @rg_str, @rs_sl3, @rg_sl3, @rs_ld, @rg_ld, @rs_mlk, @rg_mlk, @rs_mln, @rg_mln, @rs_box, @rg_box, @rs_alloc, @rg_alloc, @rs_bsl, @rg_bsl, @rs_mks, @rg_mks, @rs_cvt, @rs_mkm, @rs_mup, @rg_cvt, @rg_sto, @rg_byt, @rg_mkm, @rg_mup, @rs_eqz, @rs_sto, @rs_app, @rs_call, @rs_nil, @rs_apph, @rs_byt, @rg_app, @al_box, @al_alloc⟩
theorem EV2 : (type_of% @al_bsl) ∧ (type_of% @al_mks) ∧ (type_of% @sa_byt) ∧ (type_of% @set_row_frz) ∧ (type_of% @read_set_frz) ∧ (type_of% @sa_sto) ∧ (type_of% @sa_app) ∧ (type_of% @qpp_vs) ∧ (type_of% @app_vs) ∧ (type_of% @qpp_sl) ∧ (type_of% @sa_mkm) ∧ (type_of% @sa_mup) ∧ (type_of% @ev_mlk) ∧ (type_of% @ev_mln) ∧ (type_of% @mup_mp) ∧ (type_of% @sa_cvt) ∧ (type_of% @cvt_sl) ∧ (type_of% @read_plus_same) ∧ (type_of% @read_plus_ne) ∧ (type_of% @plus_nil) ∧ (type_of% @firstTok_nil) ∧ (type_of% @firstTok_sl) ∧ (type_of% @firstTok_sl0) ∧ (type_of% @firstTok_i) ∧ (type_of% @firstTok_b) ∧ (type_of% @firstTok_ag) ∧ (type_of% @firstTok_vs) ∧ (type_of% @firstTok_pv) ∧ (type_of% @firstTok_p) ∧ (type_of% @firstTok_s) ∧ (type_of% @ev_eqa) ∧ (type_of% @ev_eqs) ∧ (type_of% @ev_str) ∧ (type_of% @ev_sl3) ∧ (type_of% @aeq_n) ∧ (type_of% @aeq_ci) ∧ (type_of% @aeq_cb) ∧ (type_of% @aeq_cs) ∧ (type_of% @val_t) ∧ (type_of% @val_c) := ⟨@al_bsl, @al_mks, @sa_byt, @set_row_frz, @read_set_frz, @sa_sto, @sa_app, @qpp_vs, @app_vs, @qpp_sl, @sa_mkm, @sa_mup, @ev_mlk, @ev_mln, @mup_mp, @sa_cvt, @cvt_sl, @read_plus_same, @read_plus_ne, @plus_nil, @firstTok_nil, @firstTok_sl, @firstTok_sl0, @firstTok_i, @firstTok_b, @firstTok_ag, @firstTok_vs, @firstTok_pv, @firstTok_p, @firstTok_s, @ev_eqa, @ev_eqs, @ev_str, @ev_sl3, @aeq_n, @aeq_ci, @aeq_cb, @aeq_cs, @val_t, @val_c⟩
theorem EV3 : (type_of% @get_cons) ∧ (type_of% @get_nil) ∧ (type_of% @put_some) ∧ (type_of% @put_none) ∧ (type_of% @known_b) ∧ (type_of% @known_i) ∧ (type_of% @known_s) ∧ (type_of% @known_p) ∧ (type_of% @known_n) ∧ (type_of% @known_sl) ∧ (type_of% @known_fn) ∧ (type_of% @known_nf) ∧ (type_of% @known_mp) ∧ (type_of% @known_nm) ∧ (type_of% @known_vs) ∧ (type_of% @known_pv) ∧ (type_of% @cells_vs) ∧ (type_of% @cells_pv) ∧ (type_of% @one_vs) ∧ (type_of% @one_pv) ∧ (type_of% @isNil_pv) ∧ (type_of% @elems_vs) ∧ (type_of% @known_ag) ∧ (type_of% @known_tu) ∧ (type_of% @cells_b) ∧ (type_of% @cells_i) ∧ (type_of% @cells_s) ∧ (type_of% @cells_p) ∧ (type_of% @cells_n) ∧ (type_of% @cells_sl) ∧ (type_of% @cells_fn) ∧ (type_of% @cells_nf) ∧ (type_of% @cells_mp) ∧ (type_of% @cells_nm) ∧ (type_of% @cells_ag) ∧ (type_of% @one_b) ∧ (type_of% @one_i) ∧ (type_of% @one_s) ∧ (type_of% @one_p) ∧ (type_of% @one_n) := ⟨@get_cons, @get_nil, @put_some, @put_none, @known_b, @known_i, @known_s, @known_p, @known_n, @known_sl, @known_fn, @known_nf, @known_mp, @known_nm, @known_vs, @known_pv, @cells_vs, @cells_pv, @one_vs, @one_pv, @isNil_pv, @elems_vs, @known_ag, @known_tu, @cells_b, @cells_i, @cells_s, @cells_p, @cells_n, @cells_sl, @cells_fn, @cells_nf, @cells_mp, @cells_nm, @cells_ag, @one_b, @one_i, @one_s, @one_p, @one_n⟩
theorem EV4 : (type_of% @one_sl) ∧ (type_of% @one_fn) ∧ (type_of% @one_nf) ∧ (type_of% @one_mp) ∧ (type_of% @one_nm) ∧ (type_of% @rd_none) ∧ (type_of% @rd_some) ∧ (type_of% @wrt_none) ∧ (type_of% @wrt_some) ∧ (type_of% @abin_i) ∧ (type_of% @abin_shl) ∧ (type_of% @abin_shr) ∧ (type_of% @abin_beq) ∧ (type_of% @abin_bne) ∧ (type_of% @aint_add) ∧ (type_of% @aint_sub) ∧ (type_of% @aint_mul) ∧ (type_of% @aint_quo) ∧ (type_of% @aint_rem) ∧ (type_of% @aint_and) ∧ (type_of% @aint_or) ∧ (type_of% @aint_xor) ∧ (type_of% @aint_andNot) ∧ (type_of% @aint_shl) ∧ (type_of% @aint_shr) ∧ (type_of% @aint_eql) ∧ (type_of% @aint_neq) ∧ (type_of% @aint_lss) ∧ (type_of% @aint_leq) ∧ (type_of% @aint_gtr) ∧ (type_of% @aint_geq) ∧ (type_of% @isNil_n) ∧ (type_of% @isNil_p) ∧ (type_of% @bound_none) ∧ (type_of% @bound_some) ∧ (type_of% @afill_nil) ∧ (type_of% @afill_cons) ∧ (type_of% @sto_p) ∧ (type_of% @elems_sl) ∧ (type_of% @app_sl) := ⟨@one_sl, @one_fn, @one_nf, @one_mp, @one_nm, @rd_none, @rd_some, @wrt_none, @wrt_some, @abin_i, @abin_shl, @abin_shr, @abin_beq, @abin_bne, @aint_add, @aint_sub, @aint_mul, @aint_quo, @aint_rem, @aint_and, @aint_or, @aint_xor, @aint_andNot, @aint_shl, @aint_shr, @aint_eql, @aint_neq, @aint_lss, @aint_leq, @aint_gtr, @aint_geq, @isNil_n, @isNil_p, @bound_none, @bound_some, @afill_nil, @afill_cons, @sto_p, @elems_sl, @app_sl⟩
theorem EV5 : (type_of% @amm_nil) ∧ (type_of% @amm_max) ∧ (type_of% @amm_min) ∧ (type_of% @guard_gt) ∧ (type_of% @guard_gf) ∧ (type_of% @strip_and) ∧ (type_of% @strip_nest) ∧ (type_of% @strip_nest2) ∧ (type_of% @strip_nest3) ∧ (type_of% @strip_nest4) ∧ (type_of% @strip_two_b) ∧ (type_of% @strip_two_i) ∧ (type_of% @strip_two_p) ∧ (type_of% @strip_two_pv) ∧ (type_of% @strip_two_sl) ∧ (type_of% @strip_two_vs) ∧ (type_of% @strip_two_ag) ∧ (type_of% @strip_tt) ∧ (type_of% @bind_some) ∧ (type_of% @wrapu8) ∧ (type_of% @wrapu64) ∧ (type_of% @getD_some) ∧ (type_of% @ite_same) ∧ (type_of% @map_some) ∧ (type_of% @map_none) ∧ (type_of% @lm_nil) ∧ (type_of% @lm_cons) ∧ (type_of% @ev_ld) ∧ (type_of% @ev_pick) ∧ (type_of% @ev_neg) ∧ (type_of% @ev_not) ∧ (type_of% @ev_conv) ∧ (type_of% @ev_ext) ∧ (type_of% @ev_fa) ∧ (type_of% @ev_fld) ∧ (type_of% @ev_ia) ∧ (type_of% @ev_iap) ∧ (type_of% @ev_iv) ∧ (type_of% @ev_sli) ∧ (type_of% @ev_slp) := ⟨@amm_nil, @amm_max, @amm_min, @guard_gt, @guard_gf, @strip_and, @strip_nest, @strip_nest2, @strip_nest3, @strip_nest4, @strip_two_b, @strip_two_i, @strip_two_p, @strip_two_pv, @strip_two_sl, @strip_two_vs, @strip_two_ag, @strip_tt, @bind_some, @wrapu8, @wrapu64, @getD_some, @ite_same, @map_some, @map_none, @lm_nil, @lm_cons, @ev_ld, @ev_pick, @ev_neg, @ev_not, @ev_conv, @ev_ext, @ev_fa, @ev_fld, @ev_ia, @ev_iap, @ev_iv, @ev_sli, @ev_slp⟩
theorem EV6 : (type_of% @ev_nck) ∧ (type_of% @ev_bld) ∧ (type_of% @ev_len) ∧ (type_of% @ev_eqn) ∧ (type_of% @AH.bump_nx) ∧ (type_of% @AH.set_nx) ∧ (type_of% @read_bump) ∧ (type_of% @read_set_same) ∧ (type_of% @read_set_ne) ∧ (type_of% @guard_t) ∧ (type_of% @guard_f) ∧ (type_of% @stS_get) ∧ (type_of% @strip_self) ∧ (type_of% @strip_b) ∧ (type_of% @strip_i) ∧ (type_of% @strip_p) ∧ (type_of% @strip_sl) ∧ (type_of% @strip_ag) ∧ (type_of% @strip_tu) ∧ (type_of% @strip_vs) ∧ (type_of% @strip_pv) ∧ (type_of% @vsub_nn) ∧ (type_of% @vsub_sn) ∧ (type_of% @vsub_ns) ∧ (type_of% @vsub_ss) ∧ (type_of% @strip_n) ∧ (type_of% @strip_s) ∧ (type_of% @strip_fn) ∧ (type_of% @strip_mp) ∧ (type_of% @strip_nm) ∧ (type_of% @strip_nf) ∧ (type_of% @pick_and) ∧ (type_of% @pick_or) ∧ (type_of% @apick_t) ∧ (type_of% @apick_f) ∧ (type_of% @AH.set_m_same) ∧ (type_of% @AH.set_m_ne) ∧ (type_of% @AH.bump_m) ∧ (type_of% @AH.kill_m_ne) ∧ (type_of% @AH.set_row_same) := ⟨@ev_nck, @ev_bld, @ev_len, @ev_eqn, @AH.bump_nx, @AH.set_nx, @read_bump, @read_set_same, @read_set_ne, @guard_t, @guard_f, @stS_get, @strip_self, @strip_b, @strip_i, @strip_p, @strip_sl, @strip_ag, @strip_tu, @strip_vs, @strip_pv, @vsub_nn, @vsub_sn, @vsub_ns, @vsub_ss, @strip_n, @strip_s, @strip_fn, @strip_mp, @strip_nm, @strip_nf, @pick_and, @pick_or, @apick_t, @apick_f, @AH.set_m_same, @AH.set_m_ne, @AH.bump_m, @AH.kill_m_ne, @AH.set_row_same⟩
theorem EV7 : (type_of% @AH.set_row_ne) ∧ (type_of% @AH.bump_row) ∧ (type_of% @AH.kill_row_ne) ∧ (type_of% @AH.kill_nx) ∧ (type_of% @read_kill_ne) ∧ (type_of% @cl_len) ∧ (type_of% @cl_get) ∧ (type_of% @cl_take) ∧ (type_of% @cl_drop) ∧ (type_of% @cl_set_i) ∧ (type_of% @cl_app_i) ∧ (type_of% @cl_snoc_i) ∧ (type_of% @cons_cl_i) ∧ (type_of% @cl_set_b) ∧ (type_of% @cl_app_b) ∧ (type_of% @cl_snoc_b) ∧ (type_of% @cons_cl_b) ∧ (type_of% @cl_one_i) ∧ (type_of% @cl_one_b) ∧ (type_of% @toNat_cast) ∧ (type_of% @toNat_succ) ∧ (type_of% @wrap64) ∧ (type_of% @Bool.false_eq_true) ∧ (type_of% @Nat.add_zero) ∧ (type_of% @Nat.zero_add) ∧ (type_of% @List.length_cons.{0}) ∧ (type_of% @List.length_nil.{0}) ∧ (type_of% @List.getElem?_cons_zero.{0}) ∧ (type_of% @List.getElem?_cons_succ.{0}) ∧ (type_of% @or_false) ∧ (type_of% @or_true) ∧ (type_of% @and_true) ∧ (type_of% @true_and) ∧ (type_of% @and_self) ∧ (type_of% @not_true_eq_false) ∧ (type_of% @not_false_eq_true) ∧ (type_of% @Bool.not_true) ∧ (type_of% @Bool.not_false) ∧ (type_of% @Bool.or_true) ∧ (type_of% @Bool.true_or) := ⟨@AH.set_row_ne, @AH.bump_row, @AH.kill_row_ne, @AH.kill_nx, @read_kill_ne, @cl_len, @cl_get, @cl_take, @cl_drop, @cl_set_i, @cl_app_i, @cl_snoc_i, @cons_cl_i, @cl_set_b, @cl_app_b, @cl_snoc_b, @cons_cl_b, @cl_one_i, @cl_one_b, @toNat_cast, @toNat_succ, @wrap64, @Bool.false_eq_true, @Nat.add_zero, @Nat.zero_add, @List.length_cons.{0}, @List.length_nil.{0}, @List.getElem?_cons_zero.{0}, @List.getElem?_cons_succ.{0}, @or_false, @or_true, @and_true, @true_and, @and_self, @not_true_eq_false, @not_false_eq_true, @Bool.not_true, @Bool.not_false, @Bool.or_true, @Bool.true_or⟩
theorem EV8 : (type_of% @Bool.or_false) ∧ (type_of% @Bool.false_or) ∧ (type_of% @Bool.or_self) ∧ (type_of% @Bool.not_or_self) ∧ (type_of% @Bool.or_not_self) ∧ (type_of% @beq_self_eq_true.{0}) ∧ (type_of% @beq_true) ∧ (type_of% @beq_false) ∧ (type_of% @List.drop_succ_cons.{0}) ∧ (type_of% @List.drop_zero.{0}) ∧ (type_of% @List.take_succ_cons.{0}) ∧ (type_of% @List.take_zero.{0}) ∧ (type_of% @List.drop_nil.{0}) ∧ (type_of% @List.take_nil.{0}) ∧ (type_of% @List.cons_append.{0}) ∧ (type_of% @List.nil_append.{0}) ∧ (type_of% @List.append_nil.{0}) ∧ (type_of% @List.all_cons.{0}) ∧ (type_of% @List.all_nil.{0}) ∧ (type_of% @Bool.and_true) ∧ (type_of% @Bool.true_and) ∧ (type_of% @Bool.and_self) ∧ (type_of% @Bool.and_false) ∧ (type_of% @Bool.false_and) ∧ (type_of% @Nat.mul_one) ∧ (type_of% @Nat.sub_zero) ∧ (type_of% @Nat.sub_self) ∧ (type_of% @Int.toNat_natCast) ∧ (type_of% @ne_eq.{1}) ∧ (type_of% @if_pos.{1}) ∧ (type_of% @if_neg.{1}) ∧ (type_of% @Bool.not_not) ∧ (type_of% @Bool.bne_true) ∧ (type_of% @Bool.bne_false) ∧ (type_of% @List.set_cons_zero.{0}) ∧ (type_of% @List.set_cons_succ.{0}) := ⟨@Bool.or_false, @Bool.false_or, @Bool.or_self, @Bool.not_or_self, @Bool.or_not_self, @beq_self_eq_true.{0}, @beq_true, @beq_false, @List.drop_succ_cons.{0}, @List.drop_zero.{0}, @List.take_succ_cons.{0}, @List.take_zero.{0}, @List.drop_nil.{0}, @List.take_nil.{0}, @List.cons_append.{0}, @List.nil_append.{0}, @List.append_nil.{0}, @List.all_cons.{0}, @List.all_nil.{0}, @Bool.and_true, @Bool.true_and, @Bool.and_self, @Bool.and_false, @Bool.false_and, @Nat.mul_one, @Nat.sub_zero, @Nat.sub_self, @Int.toNat_natCast, @ne_eq.{1}, @if_pos.{1}, @if_neg.{1}, @Bool.not_not, @Bool.bne_true, @Bool.bne_false, @List.set_cons_zero.{0}, @List.set_cons_succ.{0}⟩
theorem GA : (type_of% @val_t) ∧ (type_of% @val_c) ∧ (type_of% @get_cons) ∧ (type_of% @get_nil) := ⟨@val_t, @val_c, @get_cons, @get_nil⟩
theorem CA : (type_of% @val_t) ∧ (type_of% @val_c) ∧ (type_of% @get_cons) ∧ (type_of% @get_nil) ∧ (type_of% @lm_cons) ∧ (type_of% @lm_nil) ∧ (type_of% @List.nil_append.{0}) ∧ (type_of% @List.cons_append.{0}) ∧ (type_of% @List.append_nil.{0}) ∧ (type_of% @stS_get) ∧ (type_of% @strip_self) ∧ (type_of% @strip_b) ∧ (type_of% @strip_i) ∧ (type_of% @strip_p) ∧ (type_of% @strip_sl) ∧ (type_of% @strip_ag) ∧ (type_of% @strip_tu) ∧ (type_of% @strip_vs) ∧ (type_of% @strip_pv) ∧ (type_of% @strip_n) ∧ (type_of% @strip_s) ∧ (type_of% @strip_fn) ∧ (type_of% @strip_mp) ∧ (type_of% @guard_t) ∧ (type_of% @guard_f) ∧ (type_of% @guard_gt) ∧ (type_of% @guard_gf) ∧ (type_of% @Bool.true_and) ∧ (type_of% @Bool.not_true) ∧ (type_of% @Bool.not_false) ∧ (type_of% @Bool.not_not) ∧ (type_of% @strip_and) ∧ (type_of% @strip_tt) ∧ (type_of% @strip_nest) ∧ (type_of% @strip_nest2) ∧ (type_of% @strip_nest3) ∧ (type_of% @strip_nest4) ∧ (type_of% @strip_two_b) ∧ (type_of% @strip_two_i) ∧ (type_of% @strip_two_p) ∧ (type_of% @strip_two_pv) ∧ (type_of% @strip_two_sl) ∧ (type_of% @strip_two_vs) ∧ (type_of% @strip_two_ag) := ⟨@val_t, @val_c, @get_cons, @get_nil, @lm_cons, @lm_nil, @List.nil_append.{0}, @List.cons_append.{0}, @List.append_nil.{0}, @stS_get, @strip_self, @strip_b, @strip_i, @strip_p, @strip_sl, @strip_ag, @strip_tu, @strip_vs, @strip_pv, @strip_n, @strip_s, @strip_fn, @strip_mp, @guard_t, @guard_f, @guard_gt, @guard_gf, @Bool.true_and, @Bool.not_true, @Bool.not_false, @Bool.not_not, @strip_and, @strip_tt, @strip_nest, @strip_nest2, @strip_nest3, @strip_nest4, @strip_two_b, @strip_two_i, @strip_two_p, @strip_two_pv, @strip_two_sl, @strip_two_vs, @strip_two_ag⟩
theorem BO : (type_of% @decide_eq_true_eq) ∧ (type_of% @Bool.or_eq_true) ∧ (type_of% @Bool.and_eq_true) ∧ (type_of% @Bool.not_eq_true') ∧ (type_of% @decide_eq_false_iff_not) ∧ (type_of% @Bool.not_not) ∧ (type_of% @Bool.not_or) ∧ (type_of% @Bool.not_and) ∧ (type_of% @not_or) ∧ (type_of% @not_and) ∧ (type_of% @Int.not_lt) ∧ (type_of% @Int.not_le) ∧ (type_of% @Bool.not_eq_eq_eq_not) ∧ (type_of% @Bool.not_true) ∧ (type_of% @Bool.not_false) ∧ (type_of% @bne_iff_ne.{0}) ∧ (type_of% @beq_iff_eq.{0}) ∧ (type_of% @ne_eq.{1}) := ⟨@decide_eq_true_eq, @Bool.or_eq_true, @Bool.and_eq_true, @Bool.not_eq_true', @decide_eq_false_iff_not, @Bool.not_not, @Bool.not_or, @Bool.not_and, @not_or, @not_and, @Int.not_lt, @Int.not_le, @Bool.not_eq_eq_eq_not, @Bool.not_true, @Bool.not_false, @bne_iff_ne.{0}, @beq_iff_eq.{0}, @ne_eq.{1}⟩
end Go.Am
