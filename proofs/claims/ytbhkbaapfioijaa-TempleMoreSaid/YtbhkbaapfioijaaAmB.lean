/- The abstract machine: operations, and how the model's operations are read as such. -/
import Derived.Test.YtbhkbaapfioijaaAmA
set_option linter.unusedVariables false
set_option linter.unusedSimpArgs false
namespace Go.Am

/-- Operands. -/
inductive AX where
  | t (n : Nat)
  | c (v : AV)
  deriving Inhabited
def AX.val (st : St) : AX → AV
  | .t n => st.get n
  | .c v => v

inductive AOp where
  | mv (x : AX)
  | pick (c a b : AX)
  | bin (bt : Bool) (op : BinOp) (x y : AX)
  | neg (x : AX)
  | not (x : AX)
  | conv (k : IntKind) (x : AX)
  | ext (x : AX) (i : Nat)
  | fa (x : AX) (off : Nat)
  | fld (x : AX) (off : Nat) (n : Option Nat)
  | ia (k : Nat) (x i : AX)
  | iap (n k : Nat) (x i : AX)
  | iv (n k : Nat) (g : Bool) (x i : AX)
  | sli (k : Nat) (x : AX) (lo hi : Option AX)
  | slp (n k : Nat) (x : AX) (lo hi : Option AX)
  | nck (x : AX)
  | bld (zero : List AV) (parts : List (Nat × Nat × AX))
  | len (x : AX)
  | mm (mx : Bool) (x : AX) (xs : List AX)
  | mkf (f : Nat) (fst caps : List AX)
  | eqn (neg : Bool) (x y : AX)
  | eqa (neg : Bool) (ks : List Nat) (x y : AX)
  | eqs (neg : Bool) (x y : AX)
  | str (x : AX)
  | sl3 (k : Nat) (x : AX) (lo : Option AX) (hi mx : AX)
  | ld (n : Option Nat) (x : AX)
  | box (x : AX)
  | alloc (zero : List AV)
  | bsl (k : Nat) (zero : List AV) (parts : List (Nat × Nat × AX))
  | mks (k bytes : Nat) (zero : List AV) (len cap : AX)
  | sto (n : Option Nat) (x v : AX)
  | app (k bytes : Nat) (x y : AX)
  | byt (x : AX)
  | cvt (x : AX)
  | eqz (neg : Bool) (x : AX)
  | mlk (kk : Option (List Nat)) (z : AV) (ok : Bool) (x k : AX)
  | mln (x : AX)
  | mkm
  | mup (kk : Option (List Nat)) (x k v : AX)
  | call (f : AX) (args : List AX)
  deriving Inhabited

def AH.row (h : AH) (t : Nat) : Option (List AV) :=
  match h.m t with
  | some (.cells _ cs) => some cs
  | some (.frz cs) => some cs
  | _ => none

def abits (op : BinOp) (k : IntKind) (x y : Int) : Int :=
  let a := BitVec.ofInt k.bits x
  let b := BitVec.ofInt k.bits y
  k.wrap ((match op with
    | .and => a &&& b
    | .or => a ||| b
    | .xor => a ^^^ b
    | _ => a &&& ~~~b).toNat)

def aint (op : BinOp) (k : IntKind) (x y : Int) : Option AV :=
  match op with
  | .add => some (.i k (k.wrap (x + y)))
  | .sub => some (.i k (k.wrap (x - y)))
  | .mul => some (.i k (k.wrap (x * y)))
  | .quo => if y = 0 then none else some (.i k (k.wrap (x.tdiv y)))
  | .rem => if y = 0 then none else some (.i k (x.tmod y))
  | .and => some (.i k (abits .and k x y))
  | .or => some (.i k (abits .or k x y))
  | .xor => some (.i k (abits .xor k x y))
  | .andNot => some (.i k (abits .andNot k x y))
  | .shl => if 0 ≤ y then some (.i k (k.wrap (x * 2 ^ (min y.toNat k.bits)))) else none
  | .shr => if 0 ≤ y then some (.i k (x.fdiv (2 ^ (min y.toNat k.bits)))) else none
  | .eql => some (.b (x == y))
  | .neq => some (.b (x != y))
  | .lss => some (.b (x < y))
  | .leq => some (.b (x ≤ y))
  | .gtr => some (.b (y < x))
  | .geq => some (.b (y ≤ x))

def abin (bt : Bool) (op : BinOp) (x y : AV) : Option AV :=
  match x, y with
  | .i k a, .i k' b => if k = k' ∨ op = .shl ∨ op = .shr then aint op k a b else none
  | .b a, .b b => if bt then (match op with | .eql => some (.b (a == b)) | .neq => some (.b (a != b)) | _ => none) else none
  | _, _ => none

/-- parts laid into a row of cells -/
def afill (ρ : AX → AV) : List AV → List (Nat × Nat × AX) → Option (List AV)
  | cs, [] => some cs
  | cs, (off, n, x) :: r =>
    if (ρ x).known ∧ (ρ x).cells.length = n ∧ off + n ≤ cs.length then
      afill ρ (cs.take off ++ ((ρ x).cells ++ cs.drop (off + n))) r
    else none

def amm (mx : Bool) : AV → List AV → Option AV
  | v, [] => some v
  | .i k x, .i k' y :: r => if k = k' then amm mx (.i k (if mx then (if x < y then y else x) else (if y < x then y else x))) r else none
  | _, _ :: _ => none

/-- what is read from a row: one cell, or so many -/
def rd (cs : List AV) (o : Nat) : Option Nat → Option AV
  | none => cs[o]?
  | some n => if o + n ≤ cs.length then some (.ag ((cs.drop o).take n)) else none

def isNil : AV → Option Bool
  | .nilp => some true
  | .p _ _ => some false
  | .pv _ _ => some false
  | _ => none

/-- a part of a slice's cells: what was not said is not cut -/
def vsub (k : Nat) (lo hi : Option AX) (l h : Nat) (cs : List AV) : List AV :=
  match lo, hi with
  | none, none => cs
  | some _, none => cs.drop (l * k)
  | none, some _ => cs.take (h * k)
  | some _, some _ => (cs.drop (l * k)).take ((h - l) * k)

def bound (ρ : AX → AV) (d : Nat) : Option AX → Option Nat
  | none => some d
  | some x => match ρ x with
    | .i _ n => if 0 ≤ n then some n.toNat else none
    | _ => none

/-- rows of plain cells compared; ks: the kinds of the cells (0 an integer, 1 a bool, 2 a string) -/
def aeq : List Nat → List AV → List AV → Option Bool
  | [], [], [] => some true
  | 0 :: ks, .i k a :: r, .i k' b :: s => if k = k' then (aeq ks r s).map (decide (a = b) && ·) else none
  | 1 :: ks, .b a :: r, .b b :: s => (aeq ks r s).map ((a == b) && ·)
  | 2 :: ks, .s a :: r, .s b :: s => (aeq ks r s).map ((a.toList == b.toList) && ·)
  | _, _, _ => none
/-- the bytes of cells -/
def abytes : List AV → Option (List UInt8)
  | [] => some []
  | .i .u8 n :: r => (abytes r).map (UInt8.ofNat n.toNat :: ·)
  | _ => none

/-- keys compared: numbers, or rows of plain cells -/
def kq (kk : Option (List Nat)) (a b : AV) : Option Bool :=
  match kk, a, b with
  | none, .i k x, .i k' y => if k = k' then some (decide (x = y)) else none
  | some ks, .ag cs, .ag ds => aeq ks cs ds
  | _, _, _ => none
/-- where a key lies among a map's entries -/
def mfind (kk : Option (List Nat)) (key : AV) : List (AV × AV) → Nat → Option (Option (Nat × AV))
  | [], _ => some none
  | e :: es, i => match kq kk key e.1 with
    | some true => some (some (i, e.2))
    | some false => mfind kk key es (i + 1)
    | none => none
/-- a map's entries behind a store -/
def mput (kk : Option (List Nat)) (key v : AV) (es : List (AV × AV)) : Option (List (AV × AV)) :=
  match mfind kk key es 0 with
  | some (some (i, _)) => some (es.set i (key, v))
  | some none => some (es ++ [(key, v)])
  | none => none

/-- under the guard g: what is known under a guard that g implies -/
def strip (g : Bool) : AV → AV
  | .gd g' v => if (!g || g') = true then v else .gd g' v
  | v => v
def apick (t : Bool) (x y : AV) : Option AV :=
  match x, y with
  | .b p, .b q => some (.b (if t then p else q))
  | x, y => some (if t then x else y)

/-- Operations that yield a value and leave the heap as it is. -/
def AOp.ev (ρ : AX → AV) (h : AH) : AOp → Option AV
  | .mv x => some (ρ x)
  | .pick c a b => match ρ c with
    | .b t => apick t (strip t (ρ a)) (strip (!t) (ρ b))
    | _ => none
  | .bin bt op x y => abin bt op (ρ x) (ρ y)
  | .neg x => match ρ x with
    | .i k n => some (.i k (k.wrap (0 - n)))
    | _ => none
  | .not x => match ρ x with
    | .b t => some (.b !t)
    | _ => none
  | .conv k x => match ρ x with
    | .i _ n => some (.i k (k.wrap n))
    | _ => none
  | .ext x i => match ρ x with
    | .tu vs => vs[i]?
    | _ => none
  | .fa x off => match ρ x with
    | .p t o => some (.p t (o + off))
    | .pv cs o => some (.pv cs (o + off))
    | _ => none
  | .fld x off n => match ρ x with
    | .ag cs => rd cs off n
    | _ => none
  | .ia k x i => match ρ x, ρ i with
    | .sl t o n _, .i _ j => if 0 ≤ j ∧ j < n then some (.p t (o + j.toNat * k)) else none
    | .vs n cs, .i _ j => if 0 ≤ j ∧ j < n then some (.pv cs (j.toNat * k)) else none
    | _, _ => none
  | .iap n k x i => match ρ x, ρ i with
    | .p t o, .i _ j => if 0 ≤ j ∧ j < n then some (.p t (o + j.toNat * k)) else none
    | .pv cs o, .i _ j => if 0 ≤ j ∧ j < n then some (.pv cs (o + j.toNat * k)) else none
    | _, _ => none
  | .iv n k g x i => match ρ x, ρ i with
    | .ag cs, .i _ j => if 0 ≤ j ∧ j < n ∧ n * k ≤ cs.length then (if g then some (.ag ((cs.drop (j.toNat * k)).take k)) else cs[j.toNat * k]?) else none
    | _, _ => none
  | .sli k x lo hi => match ρ x with
    | .sl t o n a => match bound ρ 0 lo, bound ρ n hi with
      | some l, some h => if l ≤ h ∧ h ≤ n then some (.sl t (o + l * k) (h - l) (if a = k then k else 0)) else none
      | _, _ => none
    | .vs n cs => match bound ρ 0 lo, bound ρ n hi with
      | some l, some h => if l ≤ h ∧ h ≤ n then some (.vs (h - l) (vsub k lo hi l h cs)) else none
      | _, _ => none
    | _ => none
  | .slp n k x lo hi => match ρ x with
    | .p t o => match bound ρ 0 lo, bound ρ n hi with
      | some l, some h => if l ≤ h ∧ h ≤ n then some (.sl t (o + l * k) (h - l) 0) else none
      | _, _ => none
    | .pv cs o => match bound ρ 0 lo, bound ρ n hi with
      | some l, some h => if l ≤ h ∧ h ≤ n then some (.vs (h - l) ((cs.drop (o + l * k)).take ((h - l) * k))) else none
      | _, _ => none
    | _ => none
  | .nck x => match ρ x with
    | .p t o => some (.p t o)
    | .pv cs o => some (.pv cs o)
    | .fn f a b => some (.fn f a b)
    | _ => none
  | .bld zero parts => (afill ρ zero parts).map .ag
  | .len x => match ρ x with
    | .sl _ _ n _ => some (.i .i64 n)
    | .vs n _ => some (.i .i64 n)
    | _ => none
  | .mm mx x xs => amm mx (ρ x) (xs.map ρ)
  | .mkf f a b => some (.fn f (a.map ρ) (b.map ρ))
  | .eqn ng x y => match isNil (ρ x), isNil (ρ y) with
    | some true, some t => some (.b (t != ng))
    | some false, some true => some (.b ng)
    | _, _ => none
  | .ld n x => match ρ x with
    | .p t o => match h.row t with
      | some cs => rd cs o n
      | none => none
    | .pv cs o => rd cs o n
    | _ => none
  | .eqa ng ks x y => match ρ x, ρ y with
    | .ag cs, .ag ds => (aeq ks cs ds).map fun b => .b (b != ng)
    | _, _ => none
  | .eqs ng x y => match ρ x, ρ y with
    | .s a, .s b => some (.b ((a.toList == b.toList) != ng))
    | _, _ => none
  | .str x => match ρ x with
    | .sl t o n _ => if n = 0 then some (.s ByteArray.empty) else match h.row t with
      | some cs => if o + n ≤ cs.length then (abytes ((cs.drop o).take n)).map fun l => .s ⟨l.toArray⟩ else none
      | none => none
    | .vs n cs => if n = cs.length then (abytes cs).map fun l => .s ⟨l.toArray⟩ else none
    | _ => none
  | .sl3 k x lo hi mx => match ρ x with
    | .sl t o n a => match bound ρ 0 lo, bound ρ n (some hi), bound ρ n (some mx) with
      | some l, some h, some m => if l ≤ h ∧ h ≤ m ∧ m ≤ n then (if m = l then some (.sl 0 0 0 0) else some (.sl t (o + l * k) (h - l) (if a = k then k else 0))) else none
      | _, _, _ => none
    | .vs n cs => match bound ρ 0 lo, bound ρ n (some hi), bound ρ n (some mx) with
      | some l, some h, some m => if l ≤ h ∧ h ≤ m ∧ m ≤ n ∧ m = l then some (.sl 0 0 0 0) else none
      | _, _, _ => none
    | _ => none
  | .mlk kk z ok x k => match ρ x with
    | .nilm => if kq kk (ρ k) (ρ k) = some true then some (if ok then .tu [z, .b false] else z) else none
    | .mp t => match h.m t with
      | some (.map es) => if kq kk (ρ k) (ρ k) = some true then (match mfind kk (ρ k) es 0 with
        | some (some (_, v)) => some (if ok then .tu [v, .b true] else v)
        | some none => some (if ok then .tu [z, .b false] else z)
        | none => none) else none
      | _ => none
    | _ => none
  | .mln x => match ρ x with
    | .nilm => some (.i .i64 0)
    | .mp t => match h.m t with
      | some (.map es) => some (.i .i64 es.length)
      | _ => none
    | _ => none
  | _ => none

/-- Operations that make a new block: the value, and the block's cells. 'tok' is the new block's token. -/
def AOp.al (ρ : AX → AV) (tok : Nat) : AOp → Option (AV × List AV)
  | .box x => if (ρ x).known then some (.p tok 0, (ρ x).cells) else none
  | .alloc zero => some (.p tok 0, zero)
  | .bsl k zero parts => (afill ρ zero parts).map fun cs => (if zero.length = 0 then .sl 0 0 0 k else .sl tok 0 (if k = 0 then 0 else zero.length / k) k, cs)
  | .mks k bytes zero ln cp => match ρ ln, ρ cp with
    | .i .i64 n, .i .i64 c => if 0 ≤ n ∧ n ≤ c ∧ c ≤ 281474976710656 ∧ bytes * c ≤ 281474976710656 then some (.sl tok 0 n.toNat k, (List.replicate n.toNat zero).flatten) else none
    | _, _ => none
  | _ => none

/-- what is written into a row -/
def wrt (cs : List AV) (o : Nat) (x : AV) : Option Nat → Option (List AV)
  | none => if x.one ∧ o < cs.length then some (cs.set o x) else none
  | some n => if x.known ∧ x.cells.all AV.one ∧ x.cells.length = n ∧ o + n ≤ cs.length then some (cs.take o ++ (x.cells ++ cs.drop (o + n))) else none

def AH.set (h : AH) (t : Nat) (b : Blk) : AH := { h with m := fun s => if s = t then some b else h.m s }
def AH.kill (h : AH) (t : Nat) : AH := { h with m := fun s => if s = t then none else h.m s }

/-- A store. -/
def AH.sto (h : AH) (n : Option Nat) (x v : AV) : Option AH :=
  match x with
  | .p t o => match h.m t with
    | some (.cells true cs) => (wrt cs o v n).map fun cs' => h.set t (.cells true cs')
    | _ => none
  | _ => none

/-- the cells of a slice's elements -/
def AH.elems (h : AH) (k : Nat) : AV → Option (List AV)
  | .sl t o m _ => if m = 0 then some [] else match h.row t with
    | some cs => if o + m * k ≤ cs.length then some ((cs.drop o).take (m * k)) else none
    | none => none
  | .vs m cs => if m * k = cs.length then some cs else none
  | _ => none

/-- how many elements a slice has -/
def AV.sln : AV → Option Nat
  | .sl _ _ n _ => some n
  | .vs n _ => some n
  | _ => none
/-- An append. 'tok' is the new token. -/
def AH.app (h : AH) (k bytes tok : Nat) (x y : AV) : Option (AV × AH) :=
  match x, y.sln, h.elems k y with
  | .sl t o n a, some m, some ys =>
      if ys.all AV.one ∧ k ≠ 0 ∧ n + m ≤ 140737488355328 ∧ (n + m) * bytes ≤ 140737488355328 then
        if t = 0 then (if n = 0 then some (.sl tok 0 m k, h.set tok (.cells true ys)) else none)
        else match h.m t with
          | some (.cells true cs) => if a = k ∧ o + n * k = cs.length then some (.sl tok 0 (n + m) k, (h.kill t).set tok (.cells true (cs.drop o ++ ys))) else none
          | _ => none
      else none
  | _, _, _ => none

/-- An append to an empty slice without room: a new block. -/
def AH.qpp (h : AH) (k bytes tok : Nat) (x y : AV) : Option (AV × List AV) :=
  match x, y.sln, h.elems k y with
  | .sl t _ n _, some m, some ys => if t = 0 ∧ n = 0 ∧ ys.all AV.one ∧ k ≠ 0 ∧ n + m ≤ 140737488355328 ∧ (n + m) * bytes ≤ 140737488355328 then some (.sl tok 0 m k, ys) else none
  | _, _, _ => none
theorem qpp_app {h : AH} {k bytes tok : Nat} {x y v : AV} {cs : List AV} (e : h.qpp k bytes tok x y = some (v, cs)) : h.app k bytes tok x y = some (v, h.set tok (.cells true cs)) := by
  unfold AH.qpp at e
  split at e
  · rename_i hy1 hy2
    split at e
    · rename_i hc
      obtain ⟨h1, h2, h3, h4, h5, h6⟩ := hc
      cases e
      unfold AH.app
      simp only [hy1, hy2]
      rw [if_pos ⟨h3, h4, h5, h6⟩, if_pos h1, if_pos h2]
    · cases e
  · cases e
/-- a converted row is written no more -/
def AH.cvt (h : AH) : AV → Option AH
  | .sl t _ n _ => if n = 0 then none else match h.m t with
    | some (.cells true cs) => some (h.set t (.frz cs))
    | _ => none
  | _ => none
/-- a store into a map -/
def AH.mup (h : AH) (kk : Option (List Nat)) (x k v : AV) : Option AH :=
  match x with
  | .mp t => match h.m t with
    | some (.map es) => if kq kk k k = some true then (mput kk k v es).map fun es' => h.set t (.map es') else none
    | _ => none
  | _ => none
/-- the cells of a string's bytes -/
def bcells (b : ByteArray) : List AV := b.data.toList.map fun c => .i .u8 c.toNat

/-- An operation of a region: where its value goes, its guard (a slot, and what it must hold). -/
structure AOper where
  d : Option Nat
  g : Option (Nat × Bool)
  op : AOp
  deriving Inhabited

def absV1 : Value → Option AV
  | .bool x => some (.b x)
  | .int k n => some (.i k n)
  | .string s => some (.s s)
  | .pointer none => some .nilp
  | .slice none 0 0 => some (.sl 0 0 0 0)
  | .nilFunc => some .nilf
  | .map none => some .nilm
  | _ => none
def absV : Value → Option AV
  | .agg cs => (cs.toList.mapM absV1).map .ag
  | v => absV1 v
/-- the constant nil of a slice type -/
def nilSl : Operand → Bool
  | .const (.slice none 0 0) => true
  | _ => false
theorem nilSl_eq {y : Operand} (h : nilSl y = true) : y = .const (.slice none 0 0) := by
  unfold nilSl at h
  split at h
  · rfl
  · cases h
def toX : Operand → Option AX
  | .tmp t => some (.t t)
  | .const v => (absV v).map .c
  | .func f => some (.c (.fn f [] []))
  | .global _ => none
def toXs (xs : Array Operand) : Option (List AX) := xs.toList.mapM toX
def toXo : Option Operand → Option (Option AX)
  | none => some none
  | some x => (toX x).map some

def szOf (P : Program) (t : TypeId) : Option Nat := (P.info? t).map (·.size)
def aggOf (P : Program) (t : TypeId) : Option Bool := (P.underlying t).map fun | .struct _ | .array _ _ => true | _ => false
/-- how a variable of a type is loaded: one cell, or so many -/
def ldOf (P : Program) (t : TypeId) : Option (Option Nat) := do
  let g ← aggOf P t
  let n ← szOf P t
  if g then some (some n) else if n = 1 then some none else none
def zeroOf (P : Program) (t : TypeId) : Option (List AV) := do
  let i ← P.info? t
  let z ← i.zero
  let v ← absV z
  some v.cells

/-- a type whose values are compared cell by cell: the kinds of its cells -/
def flatEqF (g : TypeId → Option (List Nat)) : List Field → Nat → Option (List Nat)
  | [], _ => some []
  | fd :: r, off => match g fd.type with
    | some n => if fd.offset = off ∧ fd.name ≠ "_" then (flatEqF g r (off + n.length)).map (n ++ ·) else none
    | none => none
def flatEq (P : Program) : Nat → TypeId → Option (List Nat)
  | 0, _ => none
  | f + 1, t => match P.underlying t with
    | some (.int _) => if szOf P t = some 1 then some [0] else none
    | some .bool => if szOf P t = some 1 then some [1] else none
    | some .string => if szOf P t = some 1 then some [2] else none
    | some (.struct fs) => match flatEqF (flatEq P f) fs.toList 0 with
      | some n => if P.stoodInHeld t = false ∧ szOf P t = some n.length then some n else none
      | none => none
    | some (.array n e) => match flatEq P f e with
      | some m => if szOf P t = some (List.replicate n m).flatten.length then some (List.replicate n m).flatten else none
      | none => none
    | _ => none

/-- how a map's keys are compared -/
def keyK (P : Program) (t : TypeId) : Option (Option (List Nat)) :=
  match P.underlying t with
  | some (.int _) => some none
  | some (.struct _) => (flatEq P 8 t).bind fun ks => if ks.all (· != 2) = true then some (some ks) else none
  | some (.array _ _) => (flatEq P 8 t).bind fun ks => if ks.all (· != 2) = true then some (some ks) else none
  | _ => none
/-- a type's zero, as a value -/
def zeroV (P : Program) (t : TypeId) : Option AV := do
  let i ← P.info? t
  absV (← i.zero)

def AOp.ofCall (P : Program) (c : Call) : Option AOp :=
  match c.callee with
  | .value f => do some (.call (← toX f) (← toXs c.args))
  | .builtin .len => match c.argTypes[0]?, c.args.toList with
    | some t, [x] => match P.underlying t with
      | some (.slice _) => do some (.len (← toX x))
      | some (.map _ _) => do some (.mln (← toX x))
      | _ => none
    | _, _ => none
  | .builtin .min => match c.args.toList with
    | x :: xs => do some (.mm false (← toX x) (← xs.mapM toX))
    | [] => none
  | .builtin .max => match c.args.toList with
    | x :: xs => do some (.mm true (← toX x) (← xs.mapM toX))
    | [] => none
  | .builtin .append => match c.argTypes.toList, c.args.toList with
    | [t, u], [x, y] => match P.underlying t, P.underlying u with
      | some (.slice e), some (.slice _) => do
        let z ← zeroOf P e
        let k ← szOf P e
        if z.length ≠ k then none else some (.app k (← (P.info? e).map (·.bytes)) (← toX x) (← toX y))
      | _, _ => none
    | _, _ => none
  | _ => none

def AOp.of (P : Program) : Op → Option AOp
  | .move x | .assign x => do some (.mv (← toX x))
  | .pick c a b => do some (.pick (← toX c) (← toX a) (← toX b))
  | .binOp op xt x y _ =>
    match op with
    | .eql | .neq =>
      match P.underlying xt with
      | some .bool => do some (.bin true op (← toX x) (← toX y))
      | some (.int _) => do some (.bin false op (← toX x) (← toX y))
      | some (.pointer e) => do if (← szOf P e) = 0 then none else some (.eqn (op == .neq) (← toX x) (← toX y))
      | some .string => do some (.eqs (op == .neq) (← toX x) (← toX y))
      | some (.struct _) | some (.array _ _) => do
        let ks ← flatEq P 8 xt
        if P.eqGuardType P.depth xt = false then some (.eqa (op == .neq) ks (← toX x) (← toX y)) else none
      | some (.slice _) => do if nilSl y = true then some (.eqz (op == .neq) (← toX x)) else none
      | _ => none
    | _ => do some (.bin false op (← toX x) (← toX y))
  | .unOp .neg _ x => do some (.neg (← toX x))
  | .unOp .not _ x => do some (.not (← toX x))
  | .convert s d x =>
    match P.underlying s, P.underlying d with
    | some (.int _), some (.int k) => do some (.conv k (← toX x))
    | some (.slice e), some .string => match P.underlying e with
      | some (.int .u8) => do some (.str (← toX x))
      | _ => none
    | some .string, some (.slice e) => match P.underlying e with
      | some (.int .u8) => do some (.byt (← toX x))
      | _ => none
    | some (.slice _), some (.slice e) => match P.underlying e with
      | some (.int .u8) => do if s == d then some (.cvt (← toX x)) else none
      | _ => none
    | _, _ => none
  | .extract t i => do some (.ext (← toX t) i)
  | .fieldAddr s x f =>
    match P.underlying s with
    | some (.struct fs) => match fs[f]? with
      | some fl => do if (← szOf P fl.type) = 0 then none else some (.fa (← toX x) fl.offset)
      | none => none
    | _ => none
  | .field s x f =>
    match P.underlying s with
    | some (.struct fs) => match fs[f]? with
      | some fl => do some (.fld (← toX x) fl.offset (← ldOf P fl.type))
      | none => none
    | _ => none
  | .indexAddr t x i =>
    match P.underlying t with
    | some (.slice e) => do some (.ia (← szOf P e) (← toX x) (← toX i))
    | some (.array n e) => do some (.iap n (← szOf P e) (← toX x) (← toX i))
    | _ => none
  | .index t x i =>
    match P.underlying t with
    | some (.array n e) => do
      let g ← aggOf P e
      let k ← szOf P e
      if g = false ∧ k ≠ 1 then none else some (.iv n k g (← toX x) (← toX i))
    | _ => none
  | .slice t x lo hi none =>
    match P.underlying t with
    | some (.slice e) => do some (.sli (← szOf P e) (← toX x) (← toXo lo) (← toXo hi))
    | some (.array n e) => do some (.slp n (← szOf P e) (← toX x) (← toXo lo) (← toXo hi))
    | _ => none
  | .slice t x lo (some hi) (some mx) =>
    match P.underlying t with
    | some (.slice e) => do some (.sl3 (← szOf P e) (← toX x) (← toXo lo) (← toX hi) (← toX mx))
    | _ => none
  | .nilCheck x => do some (.nck (← toX x))
  | .load t x => do some (.ld (← ldOf P t) (← toX x))
  | .store t x v => do some (.sto (← ldOf P t) (← toX x) (← toX v))
  | .alloc e => do some (.alloc (← zeroOf P e))
  | .box _ x => do some (.box (← toX x))
  | .build t parts =>
    match P.underlying t with
    | some (.struct fs) => do
      let z ← zeroOf P t
      let ps ← parts.toList.mapM fun (p : Nat × Operand) => do
        let fl ← fs[p.1]?
        some (fl.offset, ← szOf P fl.type, ← toX p.2)
      if fs.toList.all fun fl => (szOf P fl.type).isSome then some (.bld z ps) else none
    | some (.array _ e) => do
      let z ← zeroOf P t
      let k ← szOf P e
      let ps ← parts.toList.mapM fun (p : Nat × Operand) => do some (p.1 * k, k, ← toX p.2)
      some (.bld z ps)
    | _ => none
  | .buildSlice t n parts =>
    match P.underlying t with
    | some (.slice e) => do
      let k ← szOf P e
      let z ← zeroOf P e
      let ps ← parts.toList.mapM fun (p : Nat × Operand) => do some (p.1 * k, k, ← toX p.2)
      if k ≠ 0 ∧ z.length = k ∧ n * k ≤ 16777216 then some (.bsl k (List.replicate n z).flatten ps) else none
    | _ => none
  | .makeSlice t l c =>
    match P.underlying t with
    | some (.slice e) => do
      let k ← szOf P e
      let z ← zeroOf P e
      let b ← (P.info? e).map (·.bytes)
      if k ≠ 0 ∧ z.length = k then some (.mks k b z (← toX l) (← toX c)) else none
    | _ => none
  | .makeMap _ none => some .mkm
  | .lookup t x i ok =>
    match P.underlying t with
    | some (.map k e) => do some (.mlk (← keyK P k) (← zeroV P e) ok (← toX x) (← toX i))
    | _ => none
  | .mapUpdate t m k x =>
    match P.underlying t with
    | some (.map kt _) => do some (.mup (← keyK P kt) (← toX m) (← toX k) (← toX x))
    | _ => none
  | .insert t m k x =>
    match P.underlying t with
    | some (.map kt _) => do some (.mup (← keyK P kt) (← toX m) (← toX k) (← toX x))
    | _ => none
  | .makeFunc (.func f) a b => do some (.mkf f (← toXs a) (← toXs b))
  | .call c => AOp.ofCall P c
  | _ => none

end Go.Am
