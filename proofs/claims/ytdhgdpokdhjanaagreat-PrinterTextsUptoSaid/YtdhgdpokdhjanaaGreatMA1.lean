/- The abstract interpreter: values, states, instructions, and what they do. No program and no memory here. -/
import GoSem.Core.View
import Derived.CallsIn
import Derived.Laws.Slices
import Derived.Laws.Entries
import Derived.Laws.Append
import Derived.Laws.Tables
import Derived.Laws.Strings
import Derived.Laws.StructEq
import Derived.Laws.Cells
set_option linter.unusedSimpArgs false
set_option linter.unusedVariables false
namespace Go.Proofs.YtdhgdpokdhjanaaGreat.Abs
open Go

/-- What is known of the spare places behind a slice: nothing; there are none; this very value owns them; it owned them; the cell c of object r holds the same slice. -/
inductive Own where
  | none | exact | moved
  | mine (size : Nat)
  | loc (r c : Nat)
  deriving DecidableEq, Repr, Inhabited

inductive AVal where
  | undef
  | bool (b : Bool)
  | int (k : IntKind) (n : Int)
  | str (l : List UInt8)
  | nilp | nils | nilm | nilf | nili
  | ref (r off : Nat)
  | ipt (cs : List AVal) (off : Nat)
  | sl (cs : List AVal) (len : Nat) (o : Own)
  | map (r : Nat)
  | imap (ks vs : List AVal)
  | fn (f : Nat) (first captured : List AVal)
  | agg (cs : List AVal)
  | tup (vs : List AVal)
  deriving Inhabited

def Own.under (n : Nat) : Own → Bool
  | .loc r _ => decide (r < n)
  | _ => true

mutual
def AVal.under (n : Nat) : AVal → Bool
  | .ref r _ => decide (r < n)
  | .map r => decide (r < n)
  | .ipt cs _ => underL n cs
  | .sl cs _ o => underL n cs && o.under n
  | .imap ks vs => underL n ks && underL n vs
  | .fn _ a b => underL n a && underL n b
  | .agg cs => underL n cs
  | .tup vs => underL n vs
  | _ => true
def underL (n : Nat) : List AVal → Bool
  | [] => true
  | a :: l => a.under n && underL n l
end

mutual
def AVal.same : AVal → AVal → Bool
  | .undef, .undef => true
  | .bool a, .bool b => a == b
  | .int k a, .int j b => k == j && a == b
  | .str a, .str b => a == b
  | .nilp, .nilp => true
  | .nils, .nils => true
  | .nilm, .nilm => true
  | .nilf, .nilf => true
  | .nili, .nili => true
  | .ref r o, .ref q p => r == q && o == p
  | .ipt a o, .ipt b p => sameL a b && o == p
  | .sl a n o, .sl b m p => sameL a b && n == m && o == p
  | .map r, .map q => r == q
  | .imap a b, .imap c d => sameL a c && sameL b d
  | .fn f a b, .fn g c d => f == g && sameL a c && sameL b d
  | .agg a, .agg b => sameL a b
  | .tup a, .tup b => sameL a b
  | _, _ => false
def sameL : List AVal → List AVal → Bool
  | [], [] => true
  | a :: l, b :: m => a.same b && sameL l m
  | _, _ => false
end

/-- A value as it is handed on or laid somewhere: nothing is known any more of the places behind it. -/
def AVal.strip : AVal → AVal
  | .sl cs n (.mine _) => .sl cs n .none
  | .sl cs n .moved => .sl cs n .none
  | .sl cs n (.loc _ _) => .sl cs n .none
  | v => v

/-- bld: a strings.Builder, and what it has been written. -/
inductive AObj where
  | cells (cs : List AVal)
  | bld (l : List UInt8)
  | map (ks vs : List AVal)
  | dead
  deriving Inhabited

/-- The objects, the newest first; n is their number. -/
structure ASt where
  n : Nat
  os : List AObj
  deriving Inhabited

def getL : List AObj → Nat → Nat → Option AObj
  | [], _, _ => none
  | _ :: _, 0, _ => none
  | o :: os, n + 1, r => if r = n then some o else getL os n r
def setL : List AObj → Nat → Nat → AObj → List AObj
  | [], _, _, _ => []
  | o :: os, 0, _, _ => o :: os
  | o :: os, n + 1, r, x => if r = n then x :: os else o :: setL os n r x
def ASt.get (s : ASt) (r : Nat) : Option AObj := getL s.os s.n r
def ASt.set (s : ASt) (r : Nat) (x : AObj) : ASt := ⟨s.n, setL s.os s.n r x⟩
def ASt.push (s : ASt) (x : AObj) : ASt := ⟨s.n + 1, x :: s.os⟩
def ASt.trunc (n : Nat) (s : ASt) : ASt := ⟨n, s.os.drop (s.n - n)⟩

abbrev Frame := List (Nat × AVal)
def Frame.get : Frame → Nat → AVal
  | [], _ => .undef
  | (k, v) :: A, d => if k = d then v else Frame.get A d
def Frame.put (A : Frame) (d : Nat) (v : AVal) : Frame := (d, v) :: A
def Frame.putO (A : Frame) : Option Nat → AVal → Frame
  | some d, v => A.put d v
  | none, _ => A

inductive Opd where
  | tmp (d : Nat)
  | val (a : AVal)
  | fn (i : Nat)
  deriving Inhabited

/-- An operand's value, as it is handed on. -/
def Opd.ev (A : Frame) : Opd → AVal
  | .tmp d => (A.get d).strip
  | .val a => a
  | .fn i => .fn i [] []

/-- A frame in which the value of an operand has been handed on with all that it owns. -/
def Opd.taken (A : Frame) : Opd → AVal × Frame
  | .tmp d => match A.get d with
    | .sl cs n (.mine z) => (.sl cs n (.mine z), A.put d (.sl cs n .none))
    | x => (x.strip, A)
  | .val a => (a, A)
  | .fn i => (.fn i [] [], A)

inductive Cv where
  | int (k : IntKind)
  | same
  | strBytes
  | bytesStr
  deriving DecidableEq, Repr, Inhabited

/-- The kinds of types whose values are compared. -/
inductive PK where
  | int (k : IntKind) | str | bool
  deriving DecidableEq, Repr, Inhabited
inductive EqT where
  | num | bool | func | ptr
  | agg (ks : List PK)
  deriving DecidableEq, Repr, Inhabited

inductive KT where
  | int | str | bool
  deriving DecidableEq, Repr, Inhabited

inductive AOp where
  | mov (x : Opd)
  | take (x : Opd)
  | pick (c a b : Opd)
  | alloc (cs : List AVal)
  | box (x : Opd)
  | build (zero : List AVal) (parts : List (Nat × Nat × Opd))
  | buildSlice (zero : List AVal) (len : Nat) (parts : List (Nat × Nat × Opd))
  | load (n : Nat) (agg : Bool) (a : Opd)
  | store (n : Nat) (a v : Opd)
  | bin (op : BinOp) (ty : EqT) (x y : Opd)
  | un (op : UnOp) (x : Opd)
  | conv (k : Cv) (x : Opd)
  | fieldAddr (off : Nat) (x : Opd)
  | field (off n : Nat) (agg : Bool) (x : Opd)
  | indexAddr (size : Nat) (x i : Opd)
  | index (x i : Opd)
  | slice (str : Bool) (size : Nat) (x : Opd) (lo hi : Option Opd)
  | makeMap
  | insert (kt : KT) (m k v : Opd)
  | lookup (kt : KT) (zero : AVal) (ok : Bool) (m k : Opd)
  | extract (x : Opd) (i : Nat)
  | nilCheck (x : Opd)
  | makeFunc (f : Nat) (first captured : List Opd)
  | call (f : Opd) (args : List Opd)
  | callp (f : Opd) (args : List Opd)
  | allocB
  | len (str : Bool) (x : Opd)
  | append (size : Nat) (x y : Opd)
  | minmax (max : Bool) (x y : Opd)
  | bad
  deriving Inhabited

structure AOper where
  dst : Option Nat
  op : AOp
  guard : Option (Nat × Bool)
  deriving Inhabited

inductive ACode where
  | skip
  | region (draw : Option (List (Nat × Nat))) (ops : List AOper) (keep : List Nat)
  | seq (a b : ACode)
  | cond (c : Opd) (a b : ACode)
  | block (id : Nat) (a : ACode)
  | loop (a : ACode) (keep : List Nat)
  | exit (id : Nat)
  | ret
  | bad
  deriving Inhabited

inductive ARes where
  | slot (d : Nat)
  | cell (d n : Nat) (agg : Bool)
  deriving Inhabited

/-- live: what the function has made goes on living: it hands back a reference to it. -/
structure AFunc where
  params : Nat
  code : ACode
  results : List ARes
  live : Bool
  deriving Inhabited

inductive AExit where
  | normal | exit (id : Nat) | ret
  deriving DecidableEq, Inhabited

abbrev CallFn := Nat → List AVal → ASt → Option (AVal × ASt)
abbrev LoopFn := ACode → List Nat → Frame → ASt → Option (AExit × Frame × ASt)

def AVal.cells : AVal → List AVal
  | .agg cs => cs
  | v => [v]

/-- n cells from a place on. -/
def cut (cs : List AVal) (off n : Nat) : Option (List AVal) :=
  if off + n ≤ cs.length then some ((cs.drop off).take n) else none

def mk (agg : Bool) (cs : List AVal) : Option AVal :=
  if agg then some (.agg cs) else match cs with
    | [v] => some v
    | _ => none

/-- Cells laid over others from a place on. -/
def splice (cs : List AVal) (off : Nat) (new : List AVal) : List AVal := cs.take off ++ new ++ cs.drop (off + new.length)

def AVal.known : AVal → Bool
  | .undef => false
  | _ => true

def fill (cs : List AVal) : List (Nat × Nat × AVal) → Option (List AVal)
  | [] => some cs
  | (off, size, v) :: r =>
    if v.known = true ∧ v.cells.length = size ∧ off + size ≤ cs.length then fill (splice cs off v.cells) r else none

def zeros (zero : List AVal) : Nat → List AVal
  | 0 => []
  | n + 1 => zero ++ zeros zero n

/-- What is read of a cell of an object: of a slice that owns its spare places: where it lies. -/
def AVal.read (r c : Nat) : AVal → AVal
  | .sl cs n (.mine _) => .sl cs n (.loc r c)
  | v => v.strip

def loadAt (s : ASt) (n : Nat) (agg : Bool) : AVal → Option AVal
  | .ref r off => match s.get r with
    | some (.cells cs) =>
      if agg then (cut cs off n).map fun l => .agg (l.map AVal.strip)
      else (cs[off]?).map (AVal.read r off)
    | _ => none
  | .ipt cs off => (cut cs off n).bind (mk agg)
  | _ => none

/-- What a cell of memory can hold, and is known. -/
def AVal.one : AVal → Bool
  | .undef | .agg _ | .tup _ => false
  | _ => true

/-- A cell may be written over: one that holds, or held, a slice with spare places only by a longer one of that kind. -/
def mayPut (old new : AVal) : Bool :=
  match old with
  | .sl cs _ (.mine _) | .sl cs _ .moved => match new with
    | .sl ds _ (.mine _) => decide (cs.length < ds.length)
    | _ => false
  | _ => true

def mayPutL : List AVal → List AVal → Bool
  | _, [] => true
  | [], _ :: _ => false
  | a :: l, b :: m => mayPut a b && mayPutL l m

def storeAt (s : ASt) (n : Nat) (a v : AVal) : Option ASt :=
  match a with
  | .ref r off => match s.get r with
    | some (.cells cs) =>
      if v.cells.length = n ∧ off + n ≤ cs.length ∧ mayPutL (cs.drop off) v.cells = true ∧ underL (r + 1) v.cells = true ∧ v.cells.all AVal.one = true then
        some (s.set r (.cells (splice cs off v.cells)))
      else none
    | _ => none
  | _ => none

def limit : Nat := 2 ^ 36

def cmpInt (op : BinOp) (x y : Int) : Option Bool :=
  match op with
  | .eql => some (decide (x = y))
  | .neq => some (!decide (x = y))
  | .lss => some (decide (x < y))
  | .leq => some (decide (x ≤ y))
  | .gtr => some (decide (y < x))
  | .geq => some (decide (y ≤ x))
  | _ => none

def bytesLess : List UInt8 → List UInt8 → Bool
  | _, [] => false
  | [], _ :: _ => true
  | a :: x, b :: y => a < b || (a == b && bytesLess x y)

def AVal.isKind : PK → AVal → Bool
  | .int k, .int j _ => k == j
  | .str, .str _ => true
  | .bool, .bool _ => true
  | _, _ => false

def isKinds : List PK → List AVal → Bool
  | [], [] => true
  | k :: ks, a :: l => a.isKind k && isKinds ks l
  | _, _ => false

def eqOp (op : BinOp) (e : Bool) : Option AVal :=
  match op with
  | .eql => some (.bool e)
  | .neq => some (.bool (!e))
  | _ => none

def abin (op : BinOp) (ty : EqT) (x y : AVal) : Option AVal :=
  match ty with
  | .num => match x, y with
    | .int k a, .int j b =>
      if k = j then
        match op with
        | .add => some (.int k (k.wrap (a + b)))
        | .sub => some (.int k (k.wrap (a - b)))
        | .mul => some (.int k (k.wrap (a * b)))
        | .quo => if b = 0 then none else some (.int k (k.wrap (a.tdiv b)))
        | .rem => if b = 0 then none else some (.int k (a.tmod b))
        | op => (cmpInt op a b).map .bool
      else none
    | .str a, .str b =>
      match op with
      | .add => if a.length + b.length ≤ limit then some (.str (a ++ b)) else none
      | .eql => some (.bool (a == b))
      | .neq => some (.bool (!(a == b)))
      | .lss => some (.bool (bytesLess a b))
      | .gtr => some (.bool (!(bytesLess a b || a == b)))
      | .leq => some (.bool (bytesLess a b || a == b))
      | .geq => some (.bool (!bytesLess a b))
      | _ => none
    | _, _ => none
  | .bool => match x, y with
    | .bool a, .bool b => eqOp op (a == b)
    | _, _ => none
  | .func => match x, y with
    | .nilf, .nilf => eqOp op true
    | .fn _ _ _, .nilf => eqOp op false
    | _, _ => none
  | .ptr => match x, y with
    | .nilp, .nilp => eqOp op true
    | .ref _ _, .nilp => eqOp op false
    | _, _ => none
  | .agg ks => match x, y with
    | .agg a, .agg b => if isKinds ks a && isKinds ks b then eqOp op (sameL a b) else none
    | _, _ => none

def aun (op : UnOp) (x : AVal) : Option AVal :=
  match op, x with
  | .neg, .int k n => some (.int k (k.wrap (0 - n)))
  | .not, .bool b => some (.bool (!b))
  | _, _ => none

def byteCells (l : List UInt8) : List AVal := l.map fun b => .int .u8 b.toNat
def bytesOf : List AVal → Option (List UInt8)
  | [] => some []
  | .int .u8 n :: r => (bytesOf r).map (UInt8.ofNat n.toNat :: ·)
  | _ => none

def aconv (k : Cv) (x : AVal) : Option AVal :=
  match k, x with
  | .int k, .int _ n => some (.int k (k.wrap n))
  | .same, .str l => some (.str l)
  | .strBytes, .str l => if l.length ≤ limit then some (.sl (byteCells l) l.length .none) else none
  | .bytesStr, .sl cs n _ => if cs.length = n then (bytesOf cs).map .str else none
  | .bytesStr, .nils => some (.str [])
  | _, _ => none

def natOf : AVal → Option Nat
  | .int _ n => if 0 ≤ n then some n.toNat else none
  | _ => none

def bound (d : Nat) : Option AVal → Option Nat
  | none => some d
  | some v => natOf v

def aslice (str : Bool) (size : Nat) (x : AVal) (lo hi : Option AVal) : Option AVal :=
  match str, x with
  | true, .str l => do
    let h ← bound l.length hi
    let o ← bound 0 lo
    if o ≤ h ∧ h ≤ l.length then some (.str ((l.take h).drop o)) else none
  | false, .sl cs n own => do
    let h ← bound n hi
    let o ← bound 0 lo
    if o ≤ h ∧ h ≤ n then some (.sl ((cs.take (h * size)).drop (o * size)) (h - o) (if h = n ∧ own = .exact then .exact else .none)) else none
  | false, .nils => do
    let h ← bound 0 hi
    let o ← bound 0 lo
    if o = 0 ∧ h = 0 then some .nils else none
  | _, _ => none

/-- Whether two keys are equal, of the kinds that are served. -/
def keq : KT → AVal → AVal → Option Bool
  | .int, .int k a, .int j b => if k = j then some (decide (a = b)) else none
  | .str, .str a, .str b => some (a == b)
  | .bool, .bool a, .bool b => some (a == b)
  | _, _, _ => none

def find (kt : KT) (k : AVal) : List AVal → List AVal → Option (Option AVal)
  | [], [] => some none
  | x :: ks, v :: vs => match keq kt k x with
    | some true => some (some v)
    | some false => find kt k ks vs
    | none => none
  | _, _ => none

def insertAt (kt : KT) (k v : AVal) : List AVal → List AVal → Option (List AVal × List AVal)
  | [], [] => some ([k], [v])
  | x :: ks, y :: vs => match keq kt k x with
    | some true => some (k :: ks, v :: vs)
    | some false => (insertAt kt k v ks vs).map fun (a, b) => (x :: a, y :: b)
    | none => none
  | _, _ => none

def entries (s : ASt) : AVal → Option (List AVal × List AVal)
  | .nilm => some ([], [])
  | .imap ks vs => some (ks, vs)
  | .map r => match s.get r with
    | some (.map ks vs) => some (ks, vs)
    | _ => none
  | _ => none

def newCells : AVal → Option (List AVal × Nat)
  | .nils => some ([], 0)
  | .sl cs n _ => some (cs, n)
  | .str l => some (byteCells l, l.length)
  | _ => none

/-- The slice to which is appended: its cells, its length, and the state in which it no longer owns what is behind it. -/
def base (size : Nat) (A : Frame) (s : ASt) : Opd → Option (List AVal × Nat × Frame × ASt)
  | .val .nils => some ([], 0, A, s)
  | .val _ | .fn _ => none
  | .tmp d => match A.get d with
    | .nils => some ([], 0, A, s)
    | .sl cs n .exact => some (cs, n, A, s)
    | .sl cs n (.mine z) => if z = size then some (cs, n, A.put d (.sl cs n .none), s) else none
    | .sl cs n (.loc r c) => match s.get r with
      | some (.cells os) => match os[c]? with
        | some (.sl ds m (.mine z)) => if ds.length = cs.length ∧ z = size then some (cs, n, A, s.set r (.cells (os.set c (.sl ds m .moved)))) else none
        | _ => none
      | _ => none
    | _ => none

def aappend (size : Nat) (A : Frame) (s : ASt) (x y : Opd) : Option (AVal × Frame × ASt) := do
  let (new, k) ← newCells (y.ev A)
  if k = 0 then
    let (v, A) := x.taken A
    match v with
    | .sl _ _ _ | .nils => some (v, A, s)
    | _ => none
  else
    let (cs, n, A, s) ← base size A s x
    if n + k ≤ limit ∧ cs.length = n * size ∧ new.length = k * size ∧ new.all AVal.one = true then some (.sl (cs ++ new) (n + k) (.mine size), A, s) else none

def aop (call : CallFn) (o : AOp) (A : Frame) (s : ASt) : Option (AVal × Frame × ASt) :=
  let pure (v : AVal) : Option (AVal × Frame × ASt) := some (v, A, s)
  match o with
  | .mov x => pure (x.ev A)
  | .take x => let (v, A) := x.taken A; some (v, A, s)
  | .pick c a b => match c.ev A with
    | .bool true => pure (a.ev A)
    | .bool false => pure (b.ev A)
    | _ => none
  | .alloc cs => some (.ref s.n 0, A, s.push (.cells cs))
  | .box x => if (x.ev A).known then some (.ref s.n 0, A, s.push (.cells (x.ev A).cells)) else none
  | .build zero parts => do pure (.agg (← fill zero (parts.map fun (i, n, x) => (i, n, x.ev A))))
  | .buildSlice zero len parts => do pure (.sl (← fill (zeros zero len) (parts.map fun (i, n, x) => (i, n, x.ev A))) len .exact)
  | .load n agg a => do pure (← loadAt s n agg (a.ev A))
  | .store n a v => do
    let (x, A') := v.taken A
    let s' ← storeAt s n (a.ev A) x
    some (.undef, A', s')
  | .bin op ty x y => do pure (← abin op ty (x.ev A) (y.ev A))
  | .un op x => do pure (← aun op (x.ev A))
  | .conv k x => do pure (← aconv k (x.ev A))
  | .fieldAddr off x => match x.ev A with
    | .ref r o => pure (.ref r (o + off))
    | .ipt cs o => pure (.ipt cs (o + off))
    | _ => none
  | .field off n agg x => match x.ev A with
    | .agg cs => do pure (← mk agg (← cut cs off n))
    | _ => none
  | .indexAddr size x i => match x.ev A, i.ev A with
    | .sl cs n _, .int _ i => if 0 ≤ i ∧ i < n then pure (.ipt cs (i.toNat * size)) else none
    | _, _ => none
  | .index x i => match x.ev A, i.ev A with
    | .str l, .int _ i => if 0 ≤ i then (l[i.toNat]?).bind fun b => pure (.int .u8 b.toNat) else none
    | _, _ => none
  | .slice str size x lo hi => do pure (← aslice str size (x.ev A) (lo.map (·.ev A)) (hi.map (·.ev A)))
  | .makeMap => some (.map s.n, A, s.push (.map [] []))
  | .insert kt m k v => match m.ev A with
    | .map r => match s.get r with
      | some (.map ks vs) => do
        let (ks, vs) ← insertAt kt (k.ev A) (v.ev A) ks vs
        if (k.ev A).under (r + 1) && (v.ev A).under (r + 1) then some (.undef, A, s.set r (.map ks vs)) else none
      | _ => none
    | _ => none
  | .lookup kt zero ok m k => do
    let (ks, vs) ← entries s (m.ev A)
    let r ← find kt (k.ev A) ks vs
    let v := r.getD zero
    pure (if ok then .tup [v, .bool r.isSome] else v)
  | .extract x i => match x.ev A with
    | .tup vs => do pure (← vs[i]?)
    | _ => none
  | .nilCheck x => match x.ev A with
    | .ref r o => pure (.ref r o)
    | .ipt cs o => pure (.ipt cs o)
    | .fn f a b => pure (.fn f a b)
    | _ => none
  | .makeFunc f first captured => pure (.fn f (first.map (·.ev A)) (captured.map (·.ev A)))
  | .call f args => match f.ev A with
    | .fn i first captured => (call i (first ++ args.map (·.ev A) ++ captured) s).map fun (v, s) => (v, A, s)
    | _ => none
  | .callp f args => match f.ev A with
    | .fn i first captured =>
      if underL 0 (first ++ args.map (·.ev A) ++ captured) then (call i (first ++ args.map (·.ev A) ++ captured) ⟨0, []⟩).bind fun (v, s') => if s'.n = 0 then some (v, A, s) else none
      else none
    | _ => none
  | .allocB => some (.ref s.n 0, A, s.push (.bld []))
  | .len str x => match str, x.ev A with
    | true, .str l => pure (.int .i64 l.length)
    | false, .sl _ n _ => pure (.int .i64 n)
    | false, .nils => pure (.int .i64 0)
    | _, _ => none
  | .append size x y => aappend size A s x y
  | .minmax max x y => match x.ev A, y.ev A with
    | .int k a, .int j b => if k = j then pure (.int k (if max then (if b > a then b else a) else (if b < a then b else a))) else none
    | _, _ => none
  | .bad => none

def wanted (A : Frame) : Option (Nat × Bool) → Option Bool
  | none => some true
  | some (d, want) => match A.get d with
    | .bool b => some (b == want)
    | .tup _ => some false
    | _ => none

def exOps (call : CallFn) : List AOper → Frame → ASt → Option (Frame × ASt)
  | [], A, s => some (A, s)
  | o :: r, A, s => match wanted A o.guard with
    | some true => (aop call o.op A s).bind fun (v, A, s) => exOps call r (A.putO o.dst v) s
    | some false => exOps call r (A.putO o.dst (.tup [])) s
    | none => none

/-- Of values that outlive objects: those objects' contents in their places. 'keep': at the top a slice may keep what it owns. -/
def fz (n : Nat) (s : ASt) : Nat → AVal → Option AVal
  | 0, _ => none
  | k + 1, v =>
    if v.under n then some v else
    match v with
    | .ref r off => match s.get r with
      | some (.cells cs) => (cs.mapM (fun c => fz n s k c.strip)).map fun l => .ipt l off
      | _ => none
    | .map r => match s.get r with
      | some (.map ks vs) => do some (.imap (← ks.mapM (fz n s k)) (← vs.mapM (fz n s k)))
      | _ => none
    | .ipt cs off => (cs.mapM (fz n s k)).map fun l => .ipt l off
    | .sl cs len o => (cs.mapM (fz n s k)).map fun l => match o with
      | .loc _ _ => .sl l len .none
      | o => .sl l len o
    | .imap ks vs => do some (.imap (← ks.mapM (fz n s k)) (← vs.mapM (fz n s k)))
    | .fn f a b => do some (.fn f (← a.mapM (fz n s k)) (← b.mapM (fz n s k)))
    | .agg cs => (cs.mapM (fz n s k)).map .agg
    | .tup vs => (vs.mapM (fz n s k)).map .tup
    | v => some v

def depth : Nat := 64

def keepF (n : Nat) (s : ASt) (A : Frame) : List Nat → Option Frame
  | [] => some []
  | d :: ds => do
    let v ← fz n s depth (A.get d)
    let B ← keepF n s A ds
    some ((d, v) :: B)

def Frame.keep (A : Frame) (ds : List Nat) : Frame := ds.map fun d => (d, A.get d)

/-! Regions whose order is open: what the instructions make in the order of the text, and that no state that they may meet makes a difference to what they read. -/

def exTrace (call : CallFn) : List AOper → Frame → ASt → Option (List (Frame × ASt))
  | [], A, s => some [(A, s)]
  | o :: r, A, s => match wanted A o.guard with
    | some true => (aop call o.op A s).bind fun (v, A', s') => (exTrace call r (A'.putO o.dst v) s').map fun l => (A, s) :: l
    | some false => (exTrace call r (A.putO o.dst (.tup [])) s).map fun l => (A, s) :: l
    | none => none

def sameO : Option AVal → Option AVal → Bool
  | some a, some b => a.same b
  | none, none => true
  | _, _ => false

def sameE : Option (List AVal × List AVal) → Option (List AVal × List AVal) → Bool
  | some (a, b), some (c, d) => sameL a c && sameL b d
  | none, none => true
  | _, _ => false

def readsSame (o : AOp) (A : Frame) (s t : ASt) : Bool :=
  match o with
  | .load n agg a => sameO (loadAt s n agg (a.ev A)) (loadAt t n agg (a.ev A))
  | .lookup _ _ _ m _ => sameE (entries s (m.ev A)) (entries t (m.ev A))
  | _ => true

/-- The state instruction j and the reading instruction l. -/
def pairOk (ops : List AOper) (tr : List (Frame × ASt)) (x : Nat × Nat) : Bool :=
  match tr[x.1]?, tr[x.1 + 1]?, tr[x.2]?, ops[x.2]? with
  | some (_, s), some (_, t), some (A, _), some o => wanted A o.guard == some false || readsSame o.op A s t
  | _, _, _, _ => false

def exDraw (call : CallFn) (pairs : List (Nat × Nat)) (ops : List AOper) (A : Frame) (s : ASt) : Option (Frame × ASt) :=
  (exTrace call ops A s).bind fun tr => if pairs.all (pairOk ops tr) then tr.getLast? else none

def exec (call : CallFn) (loop : LoopFn) : ACode → Frame → ASt → Option (AExit × Frame × ASt)
  | .skip, A, s => some (.normal, A, s)
  | .region none ops keep, A, s => (exOps call ops A s).map fun (A, s) => (.normal, A.keep keep, s)
  | .region (some pairs) ops keep, A, s => (exDraw call pairs ops A s).map fun (A, s) => (.normal, A.keep keep, s)
  | .seq a b, A, s => (exec call loop a A s).bind fun (e, A, s) => match e with
    | .normal => exec call loop b A s
    | e => some (e, A, s)
  | .cond c a b, A, s => match c.ev A with
    | .bool t => if t then exec call loop a A s else exec call loop b A s
    | _ => none
  | .block id a, A, s => (exec call loop a A s).map fun (e, A, s) => (if e = .exit id then .normal else e, A, s)
  | .loop a keep, A, s => loop a keep A s
  | .exit id, A, s => some (.exit id, A, s)
  | .ret, A, s => some (.ret, A, s)
  | .bad, _, _ => none

def result (A : Frame) (s : ASt) : ARes → Option AVal
  | .slot d => some (A.get d)
  | .cell d n agg => loadAt s n agg (A.get d).strip

def results (A : Frame) (s : ASt) : List ARes → Option AVal
  | [r] => (result A s r).map fun v => match v with
    | .sl cs n (.loc _ _) => .sl cs n .none
    | v => v
  | rs => (rs.mapM (result A s)).map fun l => .tup (l.map AVal.strip)

def params : Nat → List AVal → Frame
  | _, [] => []
  | d, v :: r => (d, v) :: params (d + 1) r

structure Cfg where
  funcs : Nat → Option AFunc
  ext : Nat → Option (List AVal → ASt → Option (AVal × ASt))

def runBody (call : CallFn) (loop : LoopFn) (f : AFunc) (args : List AVal) (s : ASt) : Option (AVal × ASt) :=
  if args.length = f.params then
    (exec call loop f.code (params 0 args) s).bind fun (e, A, s') =>
      match e with
      | .normal | .ret => do
        let v ← results A s' f.results
        if f.live ∨ s'.n = s.n then some (v, s') else do
        let v ← fz s.n s' depth v
        some (v, s'.trunc s.n)
      | _ => none
  else none

def stepCall (C : Cfg) (call : CallFn) (loop : LoopFn) : CallFn := fun f args s =>
  match C.ext f with
  | some g => g args s
  | none => match C.funcs f with
    | some fn => runBody call loop fn args s
    | none => none

def stepLoop (call : CallFn) (loop : LoopFn) : LoopFn := fun b keep A s =>
  (exec call loop b (A.keep keep) s).bind fun (e, A', s') => match e with
    | .normal => if s'.n = s.n then loop b keep A' s' else do
      let B ← keepF s.n s' A' keep
      loop b keep B (s'.trunc s.n)
    | e => some (e, A', s')

/-- With so much fuel. -/
def upto (C : Cfg) : Nat → CallFn × LoopFn
  | 0 => (fun _ _ _ => none, fun _ _ _ _ => none)
  | k + 1 => (stepCall C (upto C k).1 (upto C k).2, stepLoop (upto C k).1 (upto C k).2)

end Go.Proofs.YtdhgdpokdhjanaaGreat.Abs
/- More fuel gives the same answers; the answers with enough fuel ('Call', 'Loop') obey the equations without fuel. -/
namespace Go.Proofs.YtdhgdpokdhjanaaGreat.Abs
open Go

theorem bind_some' {α β : Type} {x : Option α} {f : α → Option β} {r : β} (h : x.bind f = some r) : ∃ a, x = some a ∧ f a = some r := by
  cases x with
  | none => cases h
  | some a => exact ⟨a, rfl, h⟩

theorem map_some' {α β : Type} {x : Option α} {f : α → β} {r : β} (h : x.map f = some r) : ∃ a, x = some a ∧ f a = r := by
  cases x with
  | none => cases h
  | some a => exact ⟨a, rfl, by simpa using h⟩

section mono
variable {call call' : CallFn} {loop loop' : LoopFn}

theorem aop_mono (hc : ∀ f args s r, call f args s = some r → call' f args s = some r) (o : AOp) (A : Frame) (s : ASt) (r : AVal × Frame × ASt)
    (h : aop call o A s = some r) : aop call' o A s = some r := by
  cases o
  case call f args =>
    simp only [aop] at h ⊢
    split at h
    · obtain ⟨x, hx, rfl⟩ := map_some' h
      rw [hc _ _ _ _ hx]; rfl
    · cases h
  case callp f args =>
    simp only [aop] at h ⊢
    split at h
    · split at h
      · rename_i hu
        rw [if_pos hu]
        obtain ⟨x, hx, h⟩ := bind_some' h
        rw [hc _ _ _ _ hx]; exact h
      · cases h
    · cases h
  all_goals exact h

theorem exOps_mono (hc : ∀ f args s r, call f args s = some r → call' f args s = some r) : ∀ (ops : List AOper) (A : Frame) (s : ASt) (r : Frame × ASt),
    exOps call ops A s = some r → exOps call' ops A s = some r
  | [], _, _, _, h => h
  | o :: rest, A, s, r, h => by
    simp only [exOps] at h ⊢
    split at h
    · obtain ⟨⟨v, A1, s1⟩, hx, hr⟩ := bind_some' h
      rw [aop_mono hc _ _ _ _ hx]
      exact exOps_mono hc rest _ _ _ hr
    · exact exOps_mono hc rest _ _ _ h
    · cases h

theorem exTrace_mono (hc : ∀ f args s r, call f args s = some r → call' f args s = some r) : ∀ (ops : List AOper) (A : Frame) (s : ASt) (r : List (Frame × ASt)),
    exTrace call ops A s = some r → exTrace call' ops A s = some r
  | [], _, _, _, h => h
  | o :: rest, A, s, r, h => by
    simp only [exTrace] at h ⊢
    split at h
    · obtain ⟨⟨v, A1, s1⟩, hx, hr⟩ := bind_some' h
      obtain ⟨l, hl, rfl⟩ := map_some' hr
      rw [aop_mono hc _ _ _ _ hx]
      simp only [Option.bind_some, exTrace_mono hc rest _ _ _ hl, Option.map_some]
    · obtain ⟨l, hl, rfl⟩ := map_some' h
      simp only [exTrace_mono hc rest _ _ _ hl, Option.map_some]
    · cases h

theorem exDraw_mono (hc : ∀ f args s r, call f args s = some r → call' f args s = some r) (pairs : List (Nat × Nat)) (ops : List AOper) (A : Frame) (s : ASt) (r : Frame × ASt)
    (h : exDraw call pairs ops A s = some r) : exDraw call' pairs ops A s = some r := by
  simp only [exDraw] at h ⊢
  obtain ⟨x, hx, hr⟩ := bind_some' h
  rw [exTrace_mono hc _ _ _ _ hx]
  exact hr

theorem exec_mono (hc : ∀ f args s r, call f args s = some r → call' f args s = some r)
    (hl : ∀ b keep A s r, loop b keep A s = some r → loop' b keep A s = some r) : ∀ (c : ACode) (A : Frame) (s : ASt) (r : AExit × Frame × ASt),
    exec call loop c A s = some r → exec call' loop' c A s = some r
  | .skip, _, _, _, h => h
  | .region none ops keep, A, s, r, h => by
    simp only [exec] at h ⊢
    obtain ⟨x, hx, rfl⟩ := map_some' h
    rw [exOps_mono hc _ _ _ _ hx]; rfl
  | .region (some pairs) ops keep, A, s, r, h => by
    simp only [exec] at h ⊢
    obtain ⟨x, hx, rfl⟩ := map_some' h
    rw [exDraw_mono hc _ _ _ _ _ hx]; rfl
  | .seq a b, A, s, r, h => by
    simp only [exec] at h ⊢
    obtain ⟨⟨e, A1, s1⟩, hx, hr⟩ := bind_some' h
    rw [exec_mono hc hl a _ _ _ hx]
    simp only [Option.bind_some]
    cases e with
    | normal => exact exec_mono hc hl b _ _ _ hr
    | exit id => exact hr
    | ret => exact hr
  | .cond c a b, A, s, r, h => by
    simp only [exec] at h ⊢
    split at h
    · split at h
      · rw [if_pos (by assumption)]; exact exec_mono hc hl a _ _ _ h
      · rw [if_neg (by assumption)]; exact exec_mono hc hl b _ _ _ h
    · cases h
  | .block id a, A, s, r, h => by
    simp only [exec] at h ⊢
    obtain ⟨x, hx, rfl⟩ := map_some' h
    rw [exec_mono hc hl a _ _ _ hx]; rfl
  | .loop a keep, A, s, r, h => by
    simp only [exec] at h ⊢
    exact hl _ _ _ _ _ h
  | .exit _, _, _, _, h => h
  | .ret, _, _, _, h => h
  | .bad, _, _, _, h => h

theorem stepCall_mono (C : Cfg) (hc : ∀ f args s r, call f args s = some r → call' f args s = some r)
    (hl : ∀ b keep A s r, loop b keep A s = some r → loop' b keep A s = some r) (f : Nat) (args : List AVal) (s : ASt) (r : AVal × ASt)
    (h : stepCall C call loop f args s = some r) : stepCall C call' loop' f args s = some r := by
  simp only [stepCall] at h ⊢
  split at h
  · exact h
  · split at h
    · rename_i fn _
      simp only [runBody] at h ⊢
      split at h
      · rw [if_pos (by assumption)]
        obtain ⟨x, hx, hr⟩ := bind_some' h
        rw [exec_mono hc hl _ _ _ _ hx]
        exact hr
      · cases h
    · cases h

theorem stepLoop_mono (hc : ∀ f args s r, call f args s = some r → call' f args s = some r)
    (hl : ∀ b keep A s r, loop b keep A s = some r → loop' b keep A s = some r) (b : ACode) (keep : List Nat) (A : Frame) (s : ASt) (r : AExit × Frame × ASt)
    (h : stepLoop call loop b keep A s = some r) : stepLoop call' loop' b keep A s = some r := by
  simp only [stepLoop] at h ⊢
  obtain ⟨⟨e, A1, s1⟩, hx, hr⟩ := bind_some' h
  rw [exec_mono hc hl _ _ _ _ hx]
  simp only [Option.bind_some]
  cases e with
  | normal =>
    simp only at hr ⊢
    by_cases hn : s1.n = s.n
    · rw [if_pos hn] at hr ⊢
      exact hl _ _ _ _ _ hr
    rw [if_neg hn] at hr ⊢
    obtain ⟨B, hB, hr⟩ := bind_some' hr
    simp only [hB]
    exact hl _ _ _ _ _ hr
  | exit id => exact hr
  | ret => exact hr
end mono

variable (C : Cfg)

theorem upto_succ : ∀ k, (∀ f args s r, (upto C k).1 f args s = some r → (upto C (k + 1)).1 f args s = some r) ∧
    (∀ b keep A s r, (upto C k).2 b keep A s = some r → (upto C (k + 1)).2 b keep A s = some r)
  | 0 => ⟨fun _ _ _ _ h => (by cases h), fun _ _ _ _ _ h => (by cases h)⟩
  | k + 1 => by
    obtain ⟨h1, h2⟩ := upto_succ k
    exact ⟨fun f args s r h => stepCall_mono C h1 h2 f args s r h, fun b keep A s r h => stepLoop_mono h1 h2 b keep A s r h⟩

theorem upto_le {k m : Nat} (h : k ≤ m) : (∀ f args s r, (upto C k).1 f args s = some r → (upto C m).1 f args s = some r) ∧
    (∀ b keep A s r, (upto C k).2 b keep A s = some r → (upto C m).2 b keep A s = some r) := by
  induction m with
  | zero => obtain rfl : k = 0 := by omega
            exact ⟨fun _ _ _ _ h => h, fun _ _ _ _ _ h => h⟩
  | succ m ih =>
    by_cases e : k = m + 1
    · subst e; exact ⟨fun _ _ _ _ h => h, fun _ _ _ _ _ h => h⟩
    · obtain ⟨h1, h2⟩ := ih (by omega)
      obtain ⟨h3, h4⟩ := upto_succ C m
      exact ⟨fun f args s r h => h3 _ _ _ _ (h1 _ _ _ _ h), fun b keep A s r h => h4 _ _ _ _ _ (h2 _ _ _ _ _ h)⟩

open Classical in
/-- What a call comes to, with enough fuel. -/
noncomputable def Call : CallFn := fun f args s =>
  if h : ∃ k r, (upto C k).1 f args s = some r then some h.choose_spec.choose else none
open Classical in
noncomputable def Loop : LoopFn := fun b keep A s =>
  if h : ∃ k r, (upto C k).2 b keep A s = some r then some h.choose_spec.choose else none

theorem Call_of {k f : Nat} {args : List AVal} {s : ASt} {r : AVal × ASt} (h : (upto C k).1 f args s = some r) : Call C f args s = some r := by
  have hh : ∃ k r, (upto C k).1 f args s = some r := ⟨k, r, h⟩
  unfold Call
  rw [dif_pos hh]
  have h2 := hh.choose_spec.choose_spec
  have h3 := (upto_le C (Nat.le_max_left hh.choose k)).1 _ _ _ _ h2
  have h4 := (upto_le C (Nat.le_max_right hh.choose k)).1 _ _ _ _ h
  rw [h3] at h4
  exact h4

theorem Loop_of {k : Nat} {b : ACode} {keep : List Nat} {A : Frame} {s : ASt} {r : AExit × Frame × ASt} (h : (upto C k).2 b keep A s = some r) : Loop C b keep A s = some r := by
  have hh : ∃ k r, (upto C k).2 b keep A s = some r := ⟨k, r, h⟩
  unfold Loop
  rw [dif_pos hh]
  have h2 := hh.choose_spec.choose_spec
  have h3 := (upto_le C (Nat.le_max_left hh.choose k)).2 _ _ _ _ _ h2
  have h4 := (upto_le C (Nat.le_max_right hh.choose k)).2 _ _ _ _ _ h
  rw [h3] at h4
  exact h4

theorem of_Call {f : Nat} {args : List AVal} {s : ASt} {r : AVal × ASt} (h : Call C f args s = some r) : ∃ k, (upto C k).1 f args s = some r := by
  unfold Call at h
  split at h
  · rename_i hh
    cases h
    exact ⟨_, hh.choose_spec.choose_spec⟩
  · cases h

theorem of_Loop {b : ACode} {keep : List Nat} {A : Frame} {s : ASt} {r : AExit × Frame × ASt} (h : Loop C b keep A s = some r) : ∃ k, (upto C k).2 b keep A s = some r := by
  unfold Loop at h
  split at h
  · rename_i hh
    cases h
    exact ⟨_, hh.choose_spec.choose_spec⟩
  · cases h

theorem aop_cont (o : AOp) (A : Frame) (s : ASt) (r : AVal × Frame × ASt) (h : aop (Call C) o A s = some r) : ∃ k, aop (upto C k).1 o A s = some r := by
  cases o
  case call f args =>
    simp only [aop] at h ⊢
    split at h
    · obtain ⟨x, hx, rfl⟩ := map_some' h
      obtain ⟨k, hk⟩ := of_Call C hx
      exact ⟨k, by rw [hk]; rfl⟩
    · cases h
  case callp f args =>
    simp only [aop] at h ⊢
    split at h
    · split at h
      · rename_i hu
        obtain ⟨x, hx, h⟩ := bind_some' h
        obtain ⟨k, hk⟩ := of_Call C hx
        exact ⟨k, by rw [if_pos hu, hk]; exact h⟩
      · cases h
    · cases h
  all_goals exact ⟨0, h⟩

theorem exOps_cont : ∀ (ops : List AOper) (A : Frame) (s : ASt) (r : Frame × ASt), exOps (Call C) ops A s = some r → ∃ k, exOps (upto C k).1 ops A s = some r
  | [], _, _, _, h => ⟨0, h⟩
  | o :: rest, A, s, r, h => by
    simp only [exOps] at h ⊢
    split at h
    · obtain ⟨⟨v, A1, s1⟩, hx, hr⟩ := bind_some' h
      obtain ⟨k1, h1⟩ := aop_cont C _ _ _ _ hx
      obtain ⟨k2, h2⟩ := exOps_cont rest _ _ _ hr
      refine ⟨max k1 k2, ?_⟩
      rw [aop_mono (upto_le C (Nat.le_max_left k1 k2)).1 _ _ _ _ h1]
      exact exOps_mono (upto_le C (Nat.le_max_right k1 k2)).1 _ _ _ _ h2
    · exact exOps_cont rest _ _ _ h
    · cases h

theorem exTrace_cont : ∀ (ops : List AOper) (A : Frame) (s : ASt) (r : List (Frame × ASt)), exTrace (Call C) ops A s = some r → ∃ k, exTrace (upto C k).1 ops A s = some r
  | [], _, _, _, h => ⟨0, h⟩
  | o :: rest, A, s, r, h => by
    simp only [exTrace] at h ⊢
    split at h
    · obtain ⟨⟨v, A1, s1⟩, hx, hr⟩ := bind_some' h
      obtain ⟨l, hl, rfl⟩ := map_some' hr
      obtain ⟨k1, h1⟩ := aop_cont C _ _ _ _ hx
      obtain ⟨k2, h2⟩ := exTrace_cont rest _ _ _ hl
      refine ⟨max k1 k2, ?_⟩
      rw [aop_mono (upto_le C (Nat.le_max_left k1 k2)).1 _ _ _ _ h1]
      simp only [Option.bind_some, exTrace_mono (upto_le C (Nat.le_max_right k1 k2)).1 _ _ _ _ h2, Option.map_some]
    · obtain ⟨l, hl, rfl⟩ := map_some' h
      obtain ⟨k, hk⟩ := exTrace_cont rest _ _ _ hl
      exact ⟨k, by simp only [hk, Option.map_some]⟩
    · cases h

theorem exDraw_cont (pairs : List (Nat × Nat)) (ops : List AOper) (A : Frame) (s : ASt) (r : Frame × ASt) (h : exDraw (Call C) pairs ops A s = some r) : ∃ k, exDraw (upto C k).1 pairs ops A s = some r := by
  simp only [exDraw] at h ⊢
  obtain ⟨x, hx, hr⟩ := bind_some' h
  obtain ⟨k, hk⟩ := exTrace_cont C _ _ _ _ hx
  exact ⟨k, by rw [hk]; exact hr⟩

theorem exec_cont : ∀ (c : ACode) (A : Frame) (s : ASt) (r : AExit × Frame × ASt), exec (Call C) (Loop C) c A s = some r →
    ∃ k, exec (upto C k).1 (upto C k).2 c A s = some r
  | .skip, _, _, _, h => ⟨0, h⟩
  | .region none ops keep, A, s, r, h => by
    simp only [exec] at h ⊢
    obtain ⟨x, hx, rfl⟩ := map_some' h
    obtain ⟨k, hk⟩ := exOps_cont C _ _ _ _ hx
    exact ⟨k, by rw [hk]; rfl⟩
  | .region (some pairs) ops keep, A, s, r, h => by
    simp only [exec] at h ⊢
    obtain ⟨x, hx, rfl⟩ := map_some' h
    obtain ⟨k, hk⟩ := exDraw_cont C _ _ _ _ _ hx
    exact ⟨k, by rw [hk]; rfl⟩
  | .seq a b, A, s, r, h => by
    simp only [exec] at h ⊢
    obtain ⟨⟨e, A1, s1⟩, hx, hr⟩ := bind_some' h
    obtain ⟨k1, h1⟩ := exec_cont a _ _ _ hx
    cases e with
    | normal =>
      obtain ⟨k2, h2⟩ := exec_cont b _ _ _ hr
      refine ⟨max k1 k2, ?_⟩
      rw [exec_mono (upto_le C (Nat.le_max_left k1 k2)).1 (upto_le C (Nat.le_max_left k1 k2)).2 _ _ _ _ h1]
      exact exec_mono (upto_le C (Nat.le_max_right k1 k2)).1 (upto_le C (Nat.le_max_right k1 k2)).2 _ _ _ _ h2
    | exit id => exact ⟨k1, by rw [h1]; exact hr⟩
    | ret => exact ⟨k1, by rw [h1]; exact hr⟩
  | .cond c a b, A, s, r, h => by
    simp only [exec] at h ⊢
    split at h
    · split at h
      · obtain ⟨k, hk⟩ := exec_cont a _ _ _ h
        exact ⟨k, by rw [if_pos (by assumption)]; exact hk⟩
      · obtain ⟨k, hk⟩ := exec_cont b _ _ _ h
        exact ⟨k, by rw [if_neg (by assumption)]; exact hk⟩
    · cases h
  | .block id a, A, s, r, h => by
    simp only [exec] at h ⊢
    obtain ⟨x, hx, rfl⟩ := map_some' h
    obtain ⟨k, hk⟩ := exec_cont a _ _ _ hx
    exact ⟨k, by rw [hk]; rfl⟩
  | .loop a keep, A, s, r, h => of_Loop C h
  | .exit _, _, _, _, h => ⟨0, h⟩
  | .ret, _, _, _, h => ⟨0, h⟩
  | .bad, _, _, _, h => ⟨0, h⟩

theorem option_ext {α : Type} {x y : Option α} (h1 : ∀ r, x = some r → y = some r) (h2 : ∀ r, y = some r → x = some r) : x = y := by
  cases x with
  | none => cases y with
    | none => rfl
    | some b => exact h2 b rfl
  | some a => exact (h1 a rfl).symm

theorem Call_eq (f : Nat) (args : List AVal) (s : ASt) : Call C f args s = stepCall C (Call C) (Loop C) f args s := by
  apply option_ext
  · intro r h
    obtain ⟨k, hk⟩ := of_Call C h
    cases k with
    | zero => cases hk
    | succ k => exact stepCall_mono C (fun _ _ _ _ h => Call_of C h) (fun _ _ _ _ _ h => Loop_of C h) _ _ _ _ hk
  · intro r h
    simp only [stepCall] at h
    split at h
    · rename_i g hg
      exact Call_of C (k := 1) (by simp only [upto, stepCall, hg]; exact h)
    · rename_i hg
      split at h
      · rename_i fn hfn
        simp only [runBody] at h
        split at h
        · rename_i hp
          obtain ⟨x, hx, hr⟩ := bind_some' h
          obtain ⟨k, hk⟩ := exec_cont C _ _ _ _ hx
          exact Call_of C (k := k + 1) (by simp only [upto, stepCall, hg, hfn, runBody, if_pos hp, hk]; exact hr)
        · cases h
      · cases h

theorem Loop_eq (b : ACode) (keep : List Nat) (A : Frame) (s : ASt) : Loop C b keep A s = stepLoop (Call C) (Loop C) b keep A s := by
  apply option_ext
  · intro r h
    obtain ⟨k, hk⟩ := of_Loop C h
    cases k with
    | zero => cases hk
    | succ k => exact stepLoop_mono (fun _ _ _ _ h => Call_of C h) (fun _ _ _ _ _ h => Loop_of C h) _ _ _ _ _ hk
  · intro r h
    simp only [stepLoop] at h
    obtain ⟨⟨e, A1, s1⟩, hx, hr⟩ := bind_some' h
    obtain ⟨k, hk⟩ := exec_cont C _ _ _ _ hx
    cases e with
    | normal =>
      simp only at hr
      by_cases hn : s1.n = s.n
      · rw [if_pos hn] at hr
        obtain ⟨m, hm⟩ := of_Loop C hr
        refine Loop_of C (k := max k m + 1) ?_
        simp only [upto, stepLoop]
        rw [exec_mono (upto_le C (Nat.le_max_left k m)).1 (upto_le C (Nat.le_max_left k m)).2 _ _ _ _ hk]
        simp only [Option.bind_some, if_pos hn]
        exact (upto_le C (Nat.le_max_right k m)).2 _ _ _ _ _ hm
      rw [if_neg hn] at hr
      obtain ⟨B, hB, hr⟩ := bind_some' hr
      obtain ⟨m, hm⟩ := of_Loop C hr
      refine Loop_of C (k := max k m + 1) ?_
      simp only [upto, stepLoop]
      rw [exec_mono (upto_le C (Nat.le_max_left k m)).1 (upto_le C (Nat.le_max_left k m)).2 _ _ _ _ hk]
      simp only [Option.bind_some, if_neg hn, hB]
      exact (upto_le C (Nat.le_max_right k m)).2 _ _ _ _ _ hm
    | exit id => exact Loop_of C (k := k + 1) (by simp only [upto, stepLoop, hk]; exact hr)
    | ret => exact Loop_of C (k := k + 1) (by simp only [upto, stepLoop, hk]; exact hr)

mutual
theorem same_eq : ∀ {a b : AVal}, a.same b = true → a = b
  | .undef, b, h => by cases b <;> simp [AVal.same] at h ⊢
  | .bool x, b, h => by cases b <;> simp [AVal.same] at h ⊢; exact h
  | .int k x, b, h => by cases b <;> simp [AVal.same] at h ⊢; exact h
  | .str x, b, h => by cases b <;> simp [AVal.same] at h ⊢; exact h
  | .nilp, b, h => by cases b <;> simp [AVal.same] at h ⊢
  | .nils, b, h => by cases b <;> simp [AVal.same] at h ⊢
  | .nilm, b, h => by cases b <;> simp [AVal.same] at h ⊢
  | .nilf, b, h => by cases b <;> simp [AVal.same] at h ⊢
  | .nili, b, h => by cases b <;> simp [AVal.same] at h ⊢
  | .ref r o, b, h => by cases b <;> simp [AVal.same] at h ⊢; exact h
  | .ipt cs o, b, h => by
    cases b <;> simp [AVal.same] at h ⊢
    exact ⟨sameL_eq h.1, h.2⟩
  | .sl cs n o, b, h => by
    cases b <;> simp [AVal.same] at h ⊢
    exact ⟨sameL_eq h.1.1, h.1.2, h.2⟩
  | .map r, b, h => by cases b <;> simp [AVal.same] at h ⊢; exact h
  | .imap ks vs, b, h => by
    cases b <;> simp [AVal.same] at h ⊢
    exact ⟨sameL_eq h.1, sameL_eq h.2⟩
  | .fn f x y, b, h => by
    cases b <;> simp [AVal.same] at h ⊢
    exact ⟨h.1.1, sameL_eq h.1.2, sameL_eq h.2⟩
  | .agg cs, b, h => by
    cases b <;> simp [AVal.same] at h ⊢
    exact sameL_eq h
  | .tup cs, b, h => by
    cases b <;> simp [AVal.same] at h ⊢
    exact sameL_eq h
theorem sameL_eq : ∀ {a b : List AVal}, sameL a b = true → a = b
  | [], b, h => by cases b <;> simp [sameL] at h ⊢
  | x :: a, b, h => by
    cases b <;> simp [sameL] at h ⊢
    exact ⟨same_eq h.1, sameL_eq h.2⟩
end

end Go.Proofs.YtdhgdpokdhjanaaGreat.Abs
/- How the abstract values lie in memory. -/
namespace Go.Proofs.YtdhgdpokdhjanaaGreat.Abs
open Go

/-- Whose a block is. -/
inductive Tag where
  | free
  | obj (r : Nat)
  | cell (r c : Nat)
  | slot (d : Nat)
  | buf (r : Nat)
  | res
  | other (h : Bool)
  deriving DecidableEq, Inhabited

/-- obj: the block of an object. own: whose the places behind the steady ones are. st: the steady cells of a block, from its head on. mst: the keys and values of a steady map. vec: the slice with spare places that a cell of an object holds, or held last. sz: the number of cells. -/
structure Gh where
  obj : Nat → Option Nat
  own : Nat → Tag
  st : Nat → List Value
  mst : Nat → Option (List Value × List Value)
  vec : Nat → Nat → Option (Value × Nat)
  sz : Nat → Nat
  deriving Inhabited

variable (fm : Nat → Nat)

mutual
inductive Rep (g : Gh) (n : Nat) : AVal → Value → Prop
  | undef (v : Value) : Rep g n .undef v
  | bool (b : Bool) : Rep g n (.bool b) (.bool b)
  | int (k : IntKind) (i : Int) : Rep g n (.int k i) (.int k i)
  | str (l : List UInt8) : Rep g n (.str l) (.string ⟨l.toArray⟩)
  | nilp : Rep g n .nilp (.pointer none)
  | nils : Rep g n .nils (.slice none 0 0)
  | nilm : Rep g n .nilm (.map none)
  | nilf : Rep g n .nilf .nilFunc
  | nili : Rep g n .nili .nilIface
  | ref (r off b : Nat) (hr : r < n) (hb : g.obj r = some b) : Rep g n (.ref r off) (.pointer (some ⟨b, off, none⟩))
  | ipt (cs : List AVal) (off b base : Nat) (vs : List Value) (h : RepL g n cs vs) (hp : vs <+: (g.st b).drop base) : Rep g n (.ipt cs off) (.pointer (some ⟨b, base + off, none⟩))
  | sl (cs : List AVal) (len : Nat) (o : Own) (b base cap : Nat) (vs : List Value) (ho : o = .none ∨ (o = .exact ∧ cap = len)) (hc : len ≤ cap) (h : RepL g n cs vs)
      (hp : vs <+: (g.st b).drop base) : Rep g n (.sl cs len o) (.slice (some ⟨b, base, none⟩) len cap)
  | sl0 (a : Addr) (cap : Nat) : Rep g n (.sl [] 0 .none) (.slice (some a) 0 cap)
  | map (r b : Nat) (hr : r < n) (hb : g.obj r = some b) : Rep g n (.map r) (.map (some b))
  | imap (ks vs : List AVal) (b : Nat) (cks cvs : List Value) (hb : g.mst b = some (cks, cvs)) (hk : RepL g n ks cks) (hv : RepL g n vs cvs) : Rep g n (.imap ks vs) (.map (some b))
  | imapU (ks vs ks0 vs0 : List AVal) (b : Nat) (cks cvs : List Value) (hb : g.mst b = some (cks, cvs)) (hk : RepL g n ks0 cks) (hv : RepL g n vs0 cvs) (hf : ∀ kt k, find kt k ks vs = find kt k ks0 vs0)
      (hu : ∀ m, underL m ks = true ∧ underL m vs = true ∧ underL m ks0 = true ∧ underL m vs0 = true) : Rep g n (.imap ks vs) (.map (some b))
  | fn (f : Nat) (xs ys : List AVal) (us vs : List Value) (h1 : RepL g n xs us) (h2 : RepL g n ys vs) (hf : fm f < 1000000) : Rep g n (.fn f xs ys) (.func (.func (fm f)) us.toArray vs.toArray)
  | yld (f l : Nat) (hf : fm f = 1000000 + l) : Rep g n (.fn f [] []) (.func (.yield l) #[] #[])
  | agg (cs : List AVal) (vs : List Value) (h : RepL g n cs vs) : Rep g n (.agg cs) (.agg vs.toArray)
  | tup (cs : List AVal) (vs : List Value) (h : RepL g n cs vs) : Rep g n (.tup cs) (.tuple vs.toArray)
inductive RepL (g : Gh) (n : Nat) : List AVal → List Value → Prop
  | nil : RepL g n [] []
  | cons (a : AVal) (v : Value) (cs : List AVal) (vs : List Value) (h : Rep g n a v) (t : RepL g n cs vs) : RepL g n (a :: cs) (v :: vs)
end

/-- What the values with objects below n lean on stands. -/
structure le (n : Nat) (g g' : Gh) : Prop where
  obj : ∀ r, r < n → ∀ b, g.obj r = some b → g'.obj r = some b
  st : ∀ b, g.st b <+: g'.st b
  mst : ∀ b x, g.mst b = some x → g'.mst b = some x
  vec : ∀ r, r < n → ∀ c h k, g.vec r c = some (h, k) → ∃ h' k', g'.vec r c = some (h', k') ∧ k ≤ k' ∧ (k = k' → h = h')

variable {fm}

theorem le.refl (n : Nat) (g : Gh) : le n g g :=
  ⟨fun _ _ _ h => h, fun _ => List.prefix_refl _, fun _ _ h => h, fun _ _ _ h k e => ⟨h, k, e, Nat.le_refl _, fun _ => rfl⟩⟩

theorem le.trans {n : Nat} {g g' g'' : Gh} (h : le n g g') (h' : le n g' g'') : le n g g'' := by
  refine ⟨fun r hr b e => h'.obj r hr b (h.obj r hr b e), fun b => (h.st b).trans (h'.st b), fun b x e => h'.mst b x (h.mst b x e), fun r hr c x k e => ?_⟩
  obtain ⟨x1, k1, e1, l1, f1⟩ := h.vec r hr c x k e
  obtain ⟨x2, k2, e2, l2, f2⟩ := h'.vec r hr c x1 k1 e1
  exact ⟨x2, k2, e2, by omega, fun e => by rw [f1 (by omega), f2 (by omega)]⟩

theorem le.less {n m : Nat} {g g' : Gh} (h : le n g g') (hm : m ≤ n) : le m g g' :=
  ⟨fun r hr => h.obj r (by omega), h.st, h.mst, fun r hr => h.vec r (by omega)⟩

theorem prefix_drop {α : Type} {a b vs : List α} {k : Nat} (h : a <+: b) (hv : vs <+: a.drop k) : vs <+: b.drop k := by
  obtain ⟨t, rfl⟩ := h
  by_cases hk : k ≤ a.length
  · rw [List.drop_append_of_le_length hk]
    exact hv.trans (List.prefix_append _ _)
  · rw [List.drop_of_length_le (by omega)] at hv
    rw [List.prefix_nil.1 hv]
    exact List.nil_prefix

mutual
theorem Rep.mono {g g' : Gh} {n n' : Nat} (hg : le n g g') (hn : n ≤ n') : ∀ {a : AVal} {v : Value}, Rep fm g n a v → Rep fm g' n' a v
  | _, _, .undef v => .undef v
  | _, _, .bool b => .bool b
  | _, _, .int k i => .int k i
  | _, _, .str l => .str l
  | _, _, .nilp => .nilp
  | _, _, .nils => .nils
  | _, _, .nilm => .nilm
  | _, _, .nilf => .nilf
  | _, _, .nili => .nili
  | _, _, .ref r off b hr hb => .ref r off b (by omega) (hg.obj r hr b hb)
  | _, _, .ipt cs off b base vs h hp => .ipt cs off b base vs (RepL.mono hg hn h) (prefix_drop (hg.st b) hp)
  | _, _, .sl cs len o b base cap vs ho hc h hp => .sl cs len o b base cap vs ho hc (RepL.mono hg hn h) (prefix_drop (hg.st b) hp)
  | _, _, .sl0 a cap => .sl0 a cap
  | _, _, .map r b hr hb => .map r b (by omega) (hg.obj r hr b hb)
  | _, _, .imap ks vs b cks cvs hb hk hv => .imap ks vs b cks cvs (hg.mst b _ hb) (RepL.mono hg hn hk) (RepL.mono hg hn hv)
  | _, _, .imapU ks vs ks0 vs0 b cks cvs hb hk hv hf hu => .imapU ks vs ks0 vs0 b cks cvs (hg.mst b _ hb) (RepL.mono hg hn hk) (RepL.mono hg hn hv) hf hu
  | _, _, .fn f xs ys us vs h1 h2 hf => .fn f xs ys us vs (RepL.mono hg hn h1) (RepL.mono hg hn h2) hf
  | _, _, .yld f l hf => .yld f l hf
  | _, _, .agg cs vs h => .agg cs vs (RepL.mono hg hn h)
  | _, _, .tup cs vs h => .tup cs vs (RepL.mono hg hn h)
theorem RepL.mono {g g' : Gh} {n n' : Nat} (hg : le n g g') (hn : n ≤ n') : ∀ {cs : List AVal} {vs : List Value}, RepL fm g n cs vs → RepL fm g' n' cs vs
  | _, _, .nil => .nil
  | _, _, .cons a v cs vs h t => .cons a v cs vs (Rep.mono hg hn h) (RepL.mono hg hn t)
end

mutual
/-- Values whose objects are below m need no more of them. -/
theorem Rep.lower {g : Gh} {n m : Nat} : ∀ {a : AVal} {v : Value}, Rep fm g n a v → a.under m = true → Rep fm g m a v
  | _, _, .undef v, _ => .undef v
  | _, _, .bool b, _ => .bool b
  | _, _, .int k i, _ => .int k i
  | _, _, .str l, _ => .str l
  | _, _, .nilp, _ => .nilp
  | _, _, .nils, _ => .nils
  | _, _, .nilm, _ => .nilm
  | _, _, .nilf, _ => .nilf
  | _, _, .nili, _ => .nili
  | _, _, .ref r off b hr hb, hu => .ref r off b (by simpa [AVal.under] using hu) hb
  | _, _, .ipt cs off b base vs h hp, hu => .ipt cs off b base vs (RepL.lower h (by simpa [AVal.under] using hu)) hp
  | _, _, .sl cs len o b base cap vs ho hc h hp, hu => .sl cs len o b base cap vs ho hc (RepL.lower h (by simp [AVal.under] at hu; exact hu.1)) hp
  | _, _, .sl0 a cap, _ => .sl0 a cap
  | _, _, .map r b hr hb, hu => .map r b (by simpa [AVal.under] using hu) hb
  | _, _, .imap ks vs b cks cvs hb hk hv, hu => by
    simp [AVal.under] at hu
    exact .imap ks vs b cks cvs hb (RepL.lower hk hu.1) (RepL.lower hv hu.2)
  | _, _, .imapU ks vs ks0 vs0 b cks cvs hb hk hv hf hu, _ => .imapU ks vs ks0 vs0 b cks cvs hb (RepL.lower hk (hu m).2.2.1) (RepL.lower hv (hu m).2.2.2) hf hu
  | _, _, .fn f xs ys us vs h1 h2 hf, hu => by
    simp [AVal.under] at hu
    exact .fn f xs ys us vs (RepL.lower h1 hu.1) (RepL.lower h2 hu.2) hf
  | _, _, .yld f l hf, _ => .yld f l hf
  | _, _, .agg cs vs h, hu => .agg cs vs (RepL.lower h (by simpa [AVal.under] using hu))
  | _, _, .tup cs vs h, hu => .tup cs vs (RepL.lower h (by simpa [AVal.under] using hu))
theorem RepL.lower {g : Gh} {n m : Nat} : ∀ {cs : List AVal} {vs : List Value}, RepL fm g n cs vs → underL m cs = true → RepL fm g m cs vs
  | _, _, .nil, _ => .nil
  | _, _, .cons a v cs vs h t, hu => by
    simp [underL] at hu
    exact .cons a v cs vs (Rep.lower h hu.1) (RepL.lower t hu.2)
end

theorem RepL.length {g : Gh} {n : Nat} : ∀ {cs : List AVal} {vs : List Value}, RepL fm g n cs vs → cs.length = vs.length
  | _, _, .nil => rfl
  | _, _, .cons _ _ _ _ _ t => by simp [RepL.length t]

theorem RepL.get {g : Gh} {n : Nat} : ∀ {cs : List AVal} {vs : List Value}, RepL fm g n cs vs → ∀ (i : Nat) (a : AVal), cs[i]? = some a → ∃ v, vs[i]? = some v ∧ Rep fm g n a v
  | _, _, .nil, i, a, h => by simp at h
  | _, _, .cons a v cs vs h t, 0, b, e => by simp at e; subst e; exact ⟨v, rfl, h⟩
  | _, _, .cons a v cs vs h t, i + 1, b, e => by simpa using RepL.get t i b (by simpa using e)

theorem RepL.drop {g : Gh} {n : Nat} : ∀ {cs : List AVal} {vs : List Value}, RepL fm g n cs vs → ∀ (i : Nat), RepL fm g n (cs.drop i) (vs.drop i)
  | _, _, h, 0 => by simpa using h
  | _, _, .nil, i + 1 => by simpa using RepL.nil
  | _, _, .cons a v cs vs h t, i + 1 => by simpa using RepL.drop t i

theorem RepL.take {g : Gh} {n : Nat} : ∀ {cs : List AVal} {vs : List Value}, RepL fm g n cs vs → ∀ (i : Nat), RepL fm g n (cs.take i) (vs.take i)
  | _, _, _, 0 => by simpa using RepL.nil
  | _, _, .nil, i + 1 => by simpa using RepL.nil
  | _, _, .cons a v cs vs h t, i + 1 => by simpa using RepL.cons _ _ _ _ h (RepL.take t i)

theorem RepL.append {g : Gh} {n : Nat} : ∀ {cs : List AVal} {vs : List Value} {ds : List AVal} {us : List Value}, RepL fm g n cs vs → RepL fm g n ds us → RepL fm g n (cs ++ ds) (vs ++ us)
  | _, _, _, _, .nil, h => by simpa using h
  | _, _, _, _, .cons a v cs vs h t, h' => by simpa using RepL.cons _ _ _ _ h (RepL.append t h')

/-- A value in a frame's slot. -/
def SlotRep (fm : Nat → Nat) (g : Gh) (n : Nat) (t : Tag) : AVal → Value → Prop
  | .sl cs len (.mine z), v => ∃ b base cap vs, v = .slice (some ⟨b, base, none⟩) len cap ∧ len ≤ cap ∧ RepL fm g n cs vs ∧ vs <+: (g.st b).drop base ∧
      base + cs.length = (g.st b).length ∧ base + cap * z ≤ g.sz b ∧ g.own b = t
  | .sl cs len (.loc r c), v => Rep fm g n (.sl cs len .none) v ∧ r < n ∧ (∃ b, g.obj r = some b) ∧ ∃ h k, g.vec r c = some (h, k) ∧ cs.length ≤ k ∧ (cs.length = k → v = h)
  | .sl cs len .moved, v => Rep fm g n (.sl cs len .none) v
  | a, v => Rep fm g n a v

/-- A value in cell c of object r. -/
def CellRep (fm : Nat → Nat) (g : Gh) (r c : Nat) : AVal → Value → Prop
  | .sl cs len (.mine z), v => ∃ b base cap vs, v = .slice (some ⟨b, base, none⟩) len cap ∧ len ≤ cap ∧ RepL fm g (r + 1) cs vs ∧ vs <+: (g.st b).drop base ∧
      base + cs.length = (g.st b).length ∧ base + cap * z ≤ g.sz b ∧ g.own b = .cell r c ∧ g.vec r c = some (v, cs.length)
  | .sl cs len .moved, v => Rep fm g (r + 1) (.sl cs len .none) v ∧ g.vec r c = some (v, cs.length)
  | .sl _ _ (.loc _ _), _ => False
  | a, v => Rep fm g (r + 1) a v ∧ g.vec r c = none

def ObjRep (fm : Nat → Nat) (g : Gh) (w : World) (r b : Nat) : AObj → Prop
  | .cells cs => ∃ c elem, w.heap[b]? = some (.cells c elem (0, 0)) ∧ c.size = cs.length ∧ ∀ i a, cs[i]? = some a → ∃ v, c[i]? = some v ∧ CellRep fm g r i a v
  | .bld l => ∃ p v, w.heap[b]? = some (.cells #[p, v] (fm 1000000) (0, 0)) ∧ (p = .pointer none ∨ p = .pointer (some ⟨b, 0, none⟩)) ∧
      ((v = .slice none 0 0 ∧ l = []) ∨ ∃ b2 cap cur fz, v = .slice (some ⟨b2, 0, none⟩) l.length cap ∧ g.own b2 = .buf r ∧ g.st b2 = [] ∧ w.heap[b2]? = some (.cells cur (fm 1000001) fz) ∧ fz.2 ≤ l.length ∧
        l.length ≤ cap ∧ cap ≤ maxLen ∧ cur.size = cap ∧ cur.toList.take l.length = l.map fun x => .int .u8 x.toNat)
  | .map ks vs => ∃ es clock, w.heap[b]? = some (.map es clock) ∧ RepL fm g (r + 1) ks (es.toList.map (·.key)) ∧ RepL fm g (r + 1) vs (es.toList.map (·.val))
  | .dead => True

def Tag.held : Tag → Bool
  | .free | .obj _ | .buf _ => false
  | .other h => h
  | _ => true

structure Sim (fm : Nat → Nat) (s : ASt) (g : Gh) (w : World) : Prop where
  size : s.os.length = s.n
  objs : ∀ r o, s.get r = some o → ∀ b, g.obj r = some b → ObjRep fm g w r b o
  objn : ∀ r b, g.obj r = some b → r < s.n ∧ g.own b = .obj r ∧ b < w.heap.size ∧ g.st b = [] ∧ g.mst b = none
  st : ∀ b, g.st b ≠ [] ∨ (g.own b).held = true → ∃ c elem fr, w.heap[b]? = some (.cells c elem fr) ∧ g.st b <+: c.toList ∧ c.size = g.sz b ∧ ((g.own b).held = true → fr = (0, 0))
  mst : ∀ b ks vs, g.mst b = some (ks, vs) → ∃ es clock, w.heap[b]? = some (.map es clock) ∧ es.toList.map (·.key) = ks ∧ es.toList.map (·.val) = vs
  fresh : ∀ b, w.heap.size ≤ b → g.own b = .free ∧ g.st b = [] ∧ g.mst b = none

def Fix (g g' : Gh) (b : Nat) : Prop := g'.own b = g.own b ∧ g'.st b = g.st b ∧ g'.sz b = g.sz b

/-- What others own is as it was, and so is the world outside. -/
structure Kept (g g' : Gh) (w w' : World) : Prop where
  blk : ∀ b x, g.own b = .other x → Fix g g' b ∧ w'.heap[b]? = w.heap[b]?
  os : w'.os = w.os
  out : w'.output = w.output
  mst : ∀ b x, g.own b = .other x → g'.mst b = g.mst b
instance {g g' : Gh} {w w' : World} : CoeFun (Kept g g' w w') (fun _ => ∀ b x, g.own b = .other x → Fix g g' b ∧ w'.heap[b]? = w.heap[b]?) := ⟨Kept.blk⟩

theorem Fix.trans {g g' g'' : Gh} {b : Nat} (h : Fix g g' b) (h' : Fix g' g'' b) : Fix g g'' b := ⟨h'.1.trans h.1, h'.2.1.trans h.2.1, h'.2.2.trans h.2.2⟩
theorem Kept.refl (g : Gh) (w : World) : Kept g g w w := ⟨fun _ _ _ => ⟨⟨rfl, rfl, rfl⟩, rfl⟩, rfl, rfl, fun _ _ _ => rfl⟩
theorem Kept.trans {g g' g'' : Gh} {w w' w'' : World} (h : Kept g g' w w') (h' : Kept g' g'' w' w'') : Kept g g'' w w'' := ⟨fun b x hb =>
  have h1 := h b x hb
  have h2 := h' b x (by rw [h1.1.1, hb])
  ⟨h1.1.trans h2.1, by rw [h2.2, h1.2]⟩, h'.os.trans h.os, h'.out.trans h.out, fun b x hb => (h'.mst b x (by rw [(h.blk b x hb).1.1, hb])).trans (h.mst b x hb)⟩

def FrameRep (fm : Nat → Nat) (g : Gh) (n nt : Nat) (A : Frame) (tmps : Array Value) : Prop :=
  tmps.size = nt ∧ ∀ d, A.get d ≠ .undef → ∃ v, tmps[d]? = some v ∧ SlotRep fm g n (.slot d) (A.get d) v

end Go.Proofs.YtdhgdpokdhjanaaGreat.Abs
/- Which instruction of the abstract machine stands for which operation of the model; the operations that only compute. -/
namespace Go.Proofs.YtdhgdpokdhjanaaGreat.Abs
open Go

def litOk : AVal → Value → Bool
  | .bool a, .bool b => a == b
  | .int k a, .int j b => k == j && a == b
  | .str l, .string s => l == s.data.toList
  | .nilp, .pointer none => true
  | .nils, .slice none 0 0 => true
  | .nilm, .map none => true
  | .nilf, .nilFunc => true
  | .nili, .nilIface => true
  | _, _ => false
def litOkL : List AVal → List Value → Bool
  | [], [] => true
  | a :: l, v :: m => litOk a v && litOkL l m
  | _, _ => false

section ok
variable (P : Program) (fm : Nat → Nat)

def okOpd : Opd → Operand → Bool
  | .tmp d, .tmp t => d == t
  | .val a, .const v => litOk a v
  | .fn i, .func f => fm i == f && decide (f < 1000000)
  | _, _ => false
def okOpds : List Opd → List Operand → Bool
  | [], [] => true
  | x :: l, y :: m => okOpd fm x y && okOpds l m
  | _, _ => false
def okOpdO : Option Opd → Option Operand → Bool
  | none, none => true
  | some x, some y => okOpd fm x y
  | _, _ => false

def sizeIs (t n : Nat) : Bool := match P.info? t with
  | some i => i.size == n
  | none => false
def aggIs (t : Nat) (b : Bool) : Bool := match P.underlying t with
  | some (.struct _) | some (.array _ _) => b
  | some _ => !b
  | none => false
def zeroOk (t : Nat) (cs : List AVal) : Bool := match P.info? t with
  | some i => match i.zero with
    | some z => litOkL cs z.cells.toList
    | none => false
  | none => false
def zvalOk (t : Nat) (a : AVal) : Bool := match P.info? t with
  | some i => match i.zero, a with
    | some (.agg zs), .agg cs => litOkL cs zs.toList
    | some z, a => litOk a z
    | none, _ => false
  | none => false
def partsOk (place : Nat → Option (Nat × Nat)) : List (Nat × Nat × Opd) → List (Nat × Operand) → Bool
  | [], [] => true
  | (off, size, x) :: l, (i, y) :: m => place i == some (off, size) && okOpd fm x y && partsOk place l m
  | _, _ => false
def fieldAt (fs : Array Field) (i : Nat) : Option (Nat × Nat) := match fs[i]? with
  | some f => (P.info? f.type).map fun j => (f.offset, j.size)
  | none => none
def fieldsOk (fs : List Field) : List PK → Nat → Bool
  | [], _ => fs.isEmpty
  | k :: ks, i => match fs with
    | [] => false
    | f :: r => f.name != "_" && f.offset == i && (match k, P.underlying f.type with
        | .int k, some (.int j) => k == j
        | .str, some .string => true
        | .bool, some .bool => true
        | _, _ => false) && fieldsOk r ks (i + 1)
def tyOk (t : Nat) : EqT → Bool
  | .num => true
  | .bool => match P.underlying t with | some .bool => true | _ => false
  | .func => match P.underlying t with | some (.func _ _ _) => true | _ => false
  | .ptr => match P.underlying t with | some (.pointer _) => true | _ => false
  | .agg ks => match P.underlying t with
    | some (.struct fs) => fieldsOk P fs.toList ks 0 && !P.stoodInHeld t && !P.eqGuardType P.depth t
    | _ => false
def keyOk (t : Nat) (kt : KT) : Bool := match P.underlying t with
  | some (.map k _) => match P.underlying k, kt with
    | some (.int _), .int | some .string, .str | some .bool, .bool => true
    | _, _ => false
  | _ => false
def isU8 (t : Nat) : Bool := match P.underlying t with
  | some (.slice e) => match P.underlying e with
    | some (.int .u8) => true
    | _ => false
  | _ => false
def convOk (s d : Nat) : Cv → Bool
  | .int k => match P.underlying s, P.underlying d with | some _, some (.int j) => k == j | _, _ => false
  | .same => match P.underlying s, P.underlying d with | some _, some .string => true | _, _ => false
  | .strBytes => match P.underlying s with | some _ => isU8 P d | none => false
  | .bytesStr => false

def okOp : AOp → Op → Bool
  | .mov x, .move y | .mov x, .assign y | .take x, .move y | .take x, .assign y => okOpd fm x y
  | .pick c a b, .pick c' a' b' => okOpd fm c c' && okOpd fm a a' && okOpd fm b b'
  | .alloc cs, .alloc t => zeroOk P t cs
  | .box x, .box _ y => okOpd fm x y
  | .build zero parts, .build t ps => match P.underlying t with
    | some (.struct fs) => zeroOk P t zero && partsOk fm (fieldAt P fs) parts ps.toList && fs.all fun f => (P.info? f.type).isSome
    | _ => false
  | .buildSlice zero len parts, .buildSlice t len' ps => match P.underlying t with
    | some (.slice e) => match P.info? e with
      | some i => len == len' && decide (len * i.size ≤ 2 ^ 24) && i.size != 0 && zero.length == i.size && zeroOk P e zero && partsOk fm (fun k => some (k * i.size, i.size)) parts ps.toList
      | none => false
    | _ => false
  | .load n agg x, .load t y => okOpd fm x y && aggIs P t agg && sizeIs P t n
  | .store n x v, .store t y u => okOpd fm x y && okOpd fm v u && sizeIs P t n
  | .bin op ty x y, .binOp op' t x' y' _ => op == op' && tyOk P t ty && okOpd fm x x' && okOpd fm y y'
  | .un op x, .unOp op' _ y => op == op' && okOpd fm x y
  | .conv k x, .convert s d y => convOk P s d k && okOpd fm x y
  | .fieldAddr off x, .fieldAddr t y i => okOpd fm x y && (match P.underlying t with
    | some (.struct fs) => match fs[i]? with
      | some f => f.offset == off && (match P.info? f.type with | some j => j.size != 0 | none => false)
      | none => false
    | _ => false)
  | .field off n agg x, .field t y i => okOpd fm x y && (match P.underlying t with
    | some (.struct fs) => match fs[i]? with
      | some f => f.offset == off && aggIs P f.type agg && sizeIs P f.type n
      | none => false
    | _ => false)
  | .indexAddr size x i, .indexAddr t y j => okOpd fm x y && okOpd fm i j && (match P.underlying t with
    | some (.slice e) => sizeIs P e size
    | _ => false)
  | .index x i, .index t y j => okOpd fm x y && okOpd fm i j && (match P.underlying t with | some .string => true | _ => false)
  | .slice str size x lo hi, .slice t y lo' hi' none => okOpd fm x y && okOpdO fm lo lo' && okOpdO fm hi hi' && (match P.underlying t with
    | some .string => str
    | some (.slice e) => !str && sizeIs P e size
    | _ => false)
  | .makeMap, .makeMap _ none => true
  | .insert kt m k v, .insert t m' k' v' | .insert kt m k v, .mapUpdate t m' k' v' => keyOk P t kt && okOpd fm m m' && okOpd fm k k' && okOpd fm v v'
  | .lookup kt zero ok m k, .lookup t m' k' ok' => ok == ok' && keyOk P t kt && okOpd fm m m' && okOpd fm k k' && (match P.underlying t with
    | some (.map _ e) => zvalOk P e zero
    | _ => false)
  | .extract x i, .extract y j => okOpd fm x y && i == j
  | .nilCheck x, .nilCheck y => okOpd fm x y
  | .makeFunc f first captured, .makeFunc (.func g) first' captured' => fm f == g && okOpds fm first first'.toList && okOpds fm captured captured'.toList && decide (g < 1000000)
  | .call f args, .call { callee := .value g, args := args', argTypes := _ } => okOpd fm f g && okOpds fm args args'.toList
  | .callp f args, .call { callee := .value g, args := args', argTypes := _ } => okOpd fm f g && okOpds fm args args'.toList
  | .allocB, .alloc t => t == fm 1000000 && zeroOk P t [.nilp, .nils]
  | .len str x, .call { callee := .builtin .len, args := args', argTypes := ts } => match args'.toList, ts.toList with
    | [y], [t] => okOpd fm x y && (match P.underlying t with
      | some .string => str
      | some (.slice _) => !str
      | _ => false)
    | _, _ => false
  | .append size x y, .call { callee := .builtin .append, args := args', argTypes := ts } => match args'.toList, ts.toList with
    | [x', y'], [t, u] => okOpd fm x x' && okOpd fm y y' && (match P.underlying t with
      | some (.slice e) => match P.info? e, P.underlying u with
        | some i, some d => i.size == size && size != 0 && decide (i.bytes ≤ 128) && (match d with | .int _ => false | _ => true) &&
          (match i.zero with | some z => z.cells.size == size | none => false) && (match d with | .string => isU8 P t | _ => true)
        | _, _ => false
      | _ => false)
    | _, _ => false
  | .minmax max x y, .call { callee := .builtin b, args := args', argTypes := _ } => match args'.toList with
    | [x', y'] => okOpd fm x x' && okOpd fm y y' && (match b with | .max => max | .min => !max | _ => false)
    | _ => false
  | _, _ => false
end ok

theorem litOk_rep (fm : Nat → Nat) (g : Gh) (n : Nat) : ∀ {a : AVal} {v : Value}, litOk a v = true → Rep fm g n a v := by
  intro a v h
  cases a <;> cases v <;> simp [litOk] at h
  case bool.bool => subst h; exact .bool _
  case int.int => obtain ⟨rfl, rfl⟩ := h; exact .int _ _
  case str.string l s =>
    subst h
    have : s = ⟨s.data.toList.toArray⟩ := by cases s; simp
    rw [this]
    exact .str _
  case nilp.pointer a => cases a with
    | none => exact .nilp
    | some a => simp [litOk] at h
  case nils.slice a n c =>
    cases a with
    | none =>
      cases n <;> cases c <;> simp [litOk] at h
      exact .nils
    | some a => simp [litOk] at h
  case nilm.map a => cases a with
    | none => exact .nilm
    | some a => simp [litOk] at h
  case nilf.nilFunc => exact .nilf
  case nili.nilIface => exact .nili

theorem litOkL_rep (fm : Nat → Nat) (g : Gh) (n : Nat) : ∀ {cs : List AVal} {vs : List Value}, litOkL cs vs = true → RepL fm g n cs vs
  | [], [], _ => .nil
  | a :: l, v :: m, h => by
    simp only [litOkL, Bool.and_eq_true] at h
    exact .cons _ _ _ _ (litOk_rep fm g n h.1) (litOkL_rep fm g n h.2)
  | [], _ :: _, h => by simp [litOkL] at h
  | _ :: _, [], h => by simp [litOkL] at h

theorem litOkL_plain : ∀ {cs : List AVal} {vs : List Value}, litOkL cs vs = true → ∀ a ∈ cs, a.strip = a ∧ (∀ x y z, a ≠ .sl x y z)
  | [], [], _, a, ha => by cases ha
  | a :: l, v :: m, h, b, hb => by
    simp only [litOkL, Bool.and_eq_true] at h
    cases hb with
    | head => cases a <;> simp_all [litOk, AVal.strip]
    | tail _ hb => exact litOkL_plain h.2 b hb
  | [], _ :: _, h, _, _ => by simp [litOkL] at h
  | _ :: _, [], h, _, _ => by simp [litOkL] at h

section rep
variable {fm : Nat → Nat} {g : Gh} {n nt : Nat} {A : Frame} {a : Act}

theorem SlotRep.strip {t : Tag} {x : AVal} {v : Value} (h : SlotRep fm g n t x v) : Rep fm g n x.strip v := by
  cases x
  case sl cs len o =>
    cases o with
    | none => exact h
    | exact => exact h
    | moved => exact h
    | mine z =>
      obtain ⟨b, base, cap, vs, rfl, hc, hr, hp, _⟩ := h
      exact .sl _ _ _ _ _ _ _ (.inl rfl) hc hr hp
    | loc r c => exact h.1
  all_goals exact h

theorem Rep.strip {x : AVal} {v : Value} (h : Rep fm g n x v) : Rep fm g n x.strip v := by
  cases x
  case sl cs len o =>
    cases h with
    | sl _ _ _ b base cap vs ho hc hr hp =>
      rcases ho with rfl | ⟨rfl, rfl⟩
      · exact .sl _ _ _ _ _ _ _ (.inl rfl) hc hr hp
      · exact .sl _ _ _ _ _ _ _ (.inr ⟨rfl, rfl⟩) hc hr hp
    | sl0 a cap => exact .sl0 a cap
  all_goals exact h

theorem okOpd_rep {x : Opd} {y : Operand} (hF : FrameRep fm g n nt A a.tmps) (h : okOpd fm x y = true) : Rep fm g n (x.ev A) (a.eval y) := by
  cases x <;> cases y <;> simp [okOpd] at h
  case tmp.tmp d t =>
    subst h
    simp only [Opd.ev, Act.eval]
    by_cases hu : A.get d = .undef
    · rw [hu]; exact .undef _
    · obtain ⟨v, hv, hs⟩ := hF.2 d hu
      have hlt : d < a.tmps.size := (Array.getElem?_eq_some_iff.1 hv).1
      have : a.tmps.getD d undef = v := by simp [Array.getD, hlt, (Array.getElem?_eq_some_iff.1 hv).2]
      rw [this]
      exact hs.strip
  case val.const c v => exact litOk_rep fm g n h
  case fn.func i f =>
    obtain ⟨rfl, h⟩ := h
    exact .fn i [] [] [] [] .nil .nil h

theorem okOpds_rep (hF : FrameRep fm g n nt A a.tmps) : ∀ {xs : List Opd} {ys : List Operand}, okOpds fm xs ys = true → RepL fm g n (xs.map (·.ev A)) (ys.map a.eval)
  | [], [], _ => .nil
  | x :: l, y :: m, h => by
    simp only [okOpds, Bool.and_eq_true] at h
    exact .cons _ _ _ _ (okOpd_rep hF h.1) (okOpds_rep hF h.2)
  | [], _ :: _, h => by simp [okOpds] at h
  | _ :: _, [], h => by simp [okOpds] at h
end rep

end Go.Proofs.YtdhgdpokdhjanaaGreat.Abs
/- The operations that only compute, or only read. -/
namespace Go.Proofs.YtdhgdpokdhjanaaGreat.Abs
open Go

section
variable {P : Program} {fm : Nat → Nat} {g : Gh} {n nt : Nat} {A : Frame} {a : Act} {w : World}

theorem run_typeInfo {t : Nat} {i : TypeInfo} (h : P.info? t = some i) (w : World) : (typeInfo t).run P w = .ok i w := by
  simp [typeInfo, h]
theorem run_sizeOf {t k : Nat} (h : sizeIs P t k = true) (w : World) : (sizeOf t).run P w = .ok k w := by
  unfold sizeIs at h
  split at h
  · rename_i i hi
    simp [sizeOf, run_typeInfo hi]
    simpa using h
  · cases h
theorem run_isAgg {t : Nat} {b : Bool} (h : aggIs P t b = true) (w : World) : (isAgg t).run P w = .ok b w := by
  unfold aggIs at h
  split at h
  · rename_i hu; simp [isAgg, run_underlying hu, h]
  · rename_i hu; simp [isAgg, run_underlying hu, h]
  · rename_i d h1 h2 hu
    simp only [isAgg, Sem.run_bind, run_underlying hu, Result.andThen_ok]
    cases d <;> simp_all
  · cases h

theorem Rep.cells {x : AVal} {v : Value} (h : Rep fm g n x v) (hk : x.known = true) : RepL fm g n x.cells v.cells.toList := by
  cases h
  case undef => cases hk
  case agg => simpa [AVal.cells, Value.cells]
  case tup cs vs h => exact .cons _ _ _ _ (.tup cs vs h) .nil
  all_goals exact .cons _ _ _ _ (by first | (constructor <;> assumption) | (apply Rep.imapU <;> assumption)) .nil

theorem Rep.slot {t : Tag} {x : AVal} {v : Value} (h : Rep fm g n x v) : SlotRep fm g n t x v := by
  cases h
  case sl cs len o b base cap vs ho hc h hp =>
    rcases ho with rfl | ⟨rfl, rfl⟩
    · exact .sl _ _ _ _ _ _ _ (.inl rfl) hc h hp
    · exact .sl _ _ _ _ _ _ _ (.inr ⟨rfl, rfl⟩) hc h hp
  all_goals first | (constructor <;> assumption) | (apply Rep.imapU <;> assumption)

theorem Rep.bool_inv {b : Bool} {v : Value} (h : Rep fm g n (.bool b) v) : v = .bool b := by cases h; rfl
theorem Rep.int_inv {k : IntKind} {i : Int} {v : Value} (h : Rep fm g n (.int k i) v) : v = .int k i := by cases h; rfl
theorem Rep.str_inv {l : List UInt8} {v : Value} (h : Rep fm g n (.str l) v) : v = .string ⟨l.toArray⟩ := by cases h; rfl

theorem part_run {t off k : Nat} {agg : Bool} {cs : List AVal} {vs : List Value} {x : AVal} (hr : RepL fm g n cs vs) (ha : aggIs P t agg = true) (hs : sizeIs P t k = true)
    (h : (cut cs off k).bind (mk agg) = some x) : ∃ cv, (part t vs.toArray off).run P w = .ok cv w ∧ Rep fm g n x cv := by
  obtain ⟨l, hl, hm⟩ := bind_some' h
  unfold cut at hl
  split at hl
  · rename_i hle
    cases hl
    have hlen := hr.length
    simp only [part, Sem.run_bind, run_isAgg ha, Result.andThen_ok]
    cases agg with
    | true =>
      simp only [mk, if_true, Option.some.injEq] at hm
      subst hm
      simp only [if_true, Sem.run_bind, run_sizeOf hs, Result.andThen_ok, Sem.run_pure]
      refine ⟨_, rfl, ?_⟩
      have e : (vs.toArray.extract off (off + k)) = ((vs.drop off).take k).toArray := by
        simp [List.drop_take]
      rw [e]
      exact .agg _ _ ((hr.drop off).take k)
    | false =>
      simp only [mk, Bool.false_eq_true, if_false] at hm ⊢
      split at hm
      · rename_i v he
        cases hm
        have h1 : cs[off]? = some x := by
          have := congrArg (·[0]?) he
          simp only [List.getElem?_cons_zero] at this
          rw [List.getElem?_take] at this
          split at this
          · simpa using this
          · cases this
        obtain ⟨u, hu, hR⟩ := hr.get off x h1
        refine ⟨u, ?_, hR⟩
        simp [hu]
      · cases hm
  · cases hl

theorem kIntEq {k j : IntKind} (h : (k == j) = true) : k = j := by simpa using h

theorem cmp_run {op : BinOp} {x y : Int} {b : Bool} (h : cmpInt op x y = some b) : (Op.intCmp op x y).run P w = .ok (.bool b) w := by
  cases op <;> simp only [cmpInt] at h <;> first | (cases h; done) | (cases h; rfl)

theorem bytesLess_eq : ∀ (a b : List UInt8), Op.bytesLess a b = bytesLess a b
  | _, [] => by simp [Op.bytesLess, bytesLess]
  | [], _ :: _ => by simp [Op.bytesLess, bytesLess]
  | a :: x, b :: y => by simp [Op.bytesLess, bytesLess, bytesLess_eq x y]

theorem toList_mk (l : List UInt8) : (ByteArray.mk l.toArray).toList = l := by
  rw [ByteArray.toList_eq]

theorem str_run {op : BinOp} {x y : List UInt8} {v : AVal} (h : abin op .num (.str x) (.str y) = some v) :
    ∃ cv, (Op.stringOp op ⟨x.toArray⟩ ⟨y.toArray⟩).run P w = .ok cv w ∧ Rep fm g n v cv := by
  simp only [abin] at h
  cases op <;> simp only at h
  case add =>
    split at h
    · rename_i hl
      cases h
      refine ⟨.string ⟨(x ++ y).toArray⟩, ?_, .str _⟩
      unfold limit at hl
      have e1 : (ByteArray.mk x.toArray).size = x.length := by simp [ByteArray.size]
      have e2 : (ByteArray.mk y.toArray).size = y.length := by simp [ByteArray.size]
      have : ¬ (((x.length + y.length : Nat) : Int) > IntKind.i64.max) := by
        simp [IntKind.max, IntKind.signed, IntKind.bits]; omega
      simp only [Op.stringOp, e1, e2, if_neg this, Sem.run_pure]
      congr 2
    · cases h
  all_goals first | (cases h; done) | (cases h; refine ⟨_, ?_, .bool _⟩; simp only [Op.stringOp, toList_mk, bytesLess_eq, Sem.run_pure])

theorem bool_eqOp {op : BinOp} {e : Bool} {v : AVal} (h : eqOp op e = some v) : (op = .eql ∧ v = .bool e) ∨ (op = .neq ∧ v = .bool (!e)) := by
  cases op <;> simp only [eqOp] at h <;> first | (cases h; done) | (cases h; simp)

theorem plain_part {t off : Nat} {vs : Array Value} {v : Value} {d : TypeDesc} (hu : P.underlying t = some d) (hd : (match d with | .struct _ | .array _ _ => true | _ => false) = false)
    (hv : vs[off]? = some v) : (part t vs off).run P w = .ok v w := by
  have : (isAgg t).run P w = .ok false w := by
    simp only [isAgg, Sem.run_bind, run_underlying hu, Result.andThen_ok]
    cases d <;> simp_all
  simp [part, this, hv]

/-- The cells of a struct whose fields are plain. -/
theorem fields_run (d : Nat) : ∀ (fs : List Field) (ks : List PK) (i : Nat) (cs ds : List AVal) (vs us pre qre : List Value), fieldsOk P fs ks i = true → isKinds ks cs = true → isKinds ks ds = true →
    RepL fm g n cs vs → RepL fm g n ds us → pre.length = i → qre.length = i →
    (Op.eqFields (d + 1) (pre ++ vs).toArray (qre ++ us).toArray fs).run P w = .ok (sameL cs ds) w
  | fs, [], i, cs, ds, vs, us, pre, qre, hf, hc, hd, _, _, _, _ => by
    simp only [fieldsOk, List.isEmpty_iff] at hf
    subst hf
    cases cs <;> simp [isKinds] at hc
    cases ds <;> simp [isKinds] at hd
    simp [Op.eqFields, sameL]
  | [], _ :: _, _, _, _, _, _, _, _, hf, _, _, _, _, _, _ => by simp [fieldsOk] at hf
  | f :: fs, k :: ks, i, cs, ds, vs, us, pre, qre, hf, hc, hd, hr, hs, hp, hq => by
    simp only [fieldsOk, Bool.and_eq_true] at hf
    obtain ⟨⟨⟨hname, hoff⟩, hk⟩, hrest⟩ := hf
    have hoff : f.offset = i := by simpa using hoff
    have hname : f.name ≠ "_" := by simpa using hname
    cases hr with
    | nil => simp [isKinds] at hc
    | cons a v cs vs ha hcs =>
    cases hs with
    | nil => simp [isKinds] at hd
    | cons b u ds us hb hds =>
    simp only [isKinds, Bool.and_eq_true] at hc hd
    have e1 : (pre ++ v :: vs).toArray[i]? = some v := by simp [← hp]
    have e2 : (qre ++ u :: us).toArray[i]? = some u := by simp [← hq]
    have ih := fields_run d fs ks (i + 1) cs ds vs us (pre ++ [v]) (qre ++ [u]) hrest hc.2 hd.2 hcs hds (by simp [hp]) (by simp [hq])
    simp only [List.append_assoc, List.cons_append, List.nil_append] at ih
    simp only [Op.eqFields, if_pos hname, hoff, Sem.run_bind]
    cases k with
    | int k =>
      cases hu : P.underlying f.type with
      | none => simp [hu] at hk
      | some dd =>
        cases dd <;> simp [hu] at hk
        subst hk
        cases a <;> simp [AVal.isKind] at hc
        cases b <;> simp [AVal.isKind] at hd
        obtain ⟨rfl, hc2⟩ := hc
        obtain ⟨rfl, hd2⟩ := hd
        obtain rfl := ha.int_inv
        obtain rfl := hb.int_inv
        rw [plain_part hu rfl e1]
        simp only [Result.andThen_ok]
        rw [plain_part hu rfl e2]
        simp only [Result.andThen_ok, run_equalIn_int _ _ _ _ _ _ _ hu, sameL, AVal.same, BEq.rfl, Bool.true_and]
        rename_i x y
        cases hxy : (x == y) <;> simp [ih]
    | str =>
      cases hu : P.underlying f.type with
      | none => simp [hu] at hk
      | some dd =>
        cases dd <;> simp [hu] at hk
        cases a <;> simp [AVal.isKind] at hc
        cases b <;> simp [AVal.isKind] at hd
        obtain rfl := ha.str_inv
        obtain rfl := hb.str_inv
        rw [plain_part hu rfl e1]
        simp only [Result.andThen_ok]
        rw [plain_part hu rfl e2]
        simp only [Result.andThen_ok, run_equalIn_string _ _ _ _ _ hu, sameL, AVal.same, toList_mk]
        rename_i x y
        cases hxy : (x == y) <;> simp [ih]
    | bool =>
      cases hu : P.underlying f.type with
      | none => simp [hu] at hk
      | some dd =>
        cases dd <;> simp [hu] at hk
        cases a <;> simp [AVal.isKind] at hc
        cases b <;> simp [AVal.isKind] at hd
        obtain rfl := ha.bool_inv
        obtain rfl := hb.bool_inv
        rw [plain_part hu rfl e1]
        simp only [Result.andThen_ok]
        rw [plain_part hu rfl e2]
        simp only [Result.andThen_ok, run_equalIn_bool' _ _ _ _ _ hu, sameL, AVal.same]
        rename_i x y
        cases hxy : (x == y) <;> simp [ih]

theorem eqIn_nilf (d : Nat) {t : Nat} {a b : Array TypeId} {c : Bool} (hu : P.underlying t = some (.func a b c)) : (Op.equalIn (d + 1) t .nilFunc .nilFunc).run P w = .ok true w := by
  simp [Op.equalIn, run_underlying hu]
theorem eqIn_fn (d : Nat) {t : Nat} {a b : Array TypeId} {c : Bool} (hu : P.underlying t = some (.func a b c)) (f : Fn) (x y : Array Value) : (Op.equalIn (d + 1) t (.func f x y) .nilFunc).run P w = .ok false w := by
  simp [Op.equalIn, run_underlying hu]
theorem eqIn_nilp (d : Nat) {t e : Nat} (hu : P.underlying t = some (.pointer e)) : (Op.equalIn (d + 1) t (.pointer none) (.pointer none)).run P w = .ok true w := by
  simp [Op.equalIn, run_underlying hu]
theorem eqIn_ref (d : Nat) {t e : Nat} (hu : P.underlying t = some (.pointer e)) (b : Addr) : (Op.equalIn (d + 1) t (.pointer (some b)) (.pointer none)).run P w = .ok false w := by
  simp [Op.equalIn, run_underlying hu]

theorem bin_run {op : BinOp} {ty : EqT} {t : Nat} {x y v : AVal} {cx cy : Value} {ox oy : Operand} (hx : Rep fm g n x cx) (hy : Rep fm g n y cy) (ht : tyOk P t ty = true)
    (h : abin op ty x y = some v) : ∃ cv, (do eqGuard op t ox oy cx cy; binOp op t cx cy).run P w = .ok cv w ∧ Rep fm g n v cv := by
  cases ty with
  | num =>
    cases x <;> cases y <;> simp only [abin] at h <;> try (cases h; done)
    case int.int k i j l =>
      rw [hx.int_inv, hy.int_inv]
      have hg : (eqGuard op t ox oy (.int k i) (.int j l)).run P w = .ok () w := by cases op <;> simp [eqGuard]
      simp only [Sem.run_bind, hg, Result.andThen_ok]
      split at h
      · rename_i e
        subst e
        cases op <;> simp only at h
        case add => cases h; exact ⟨_, by simp [binOp, Op.intArith], .int _ _⟩
        case sub => cases h; exact ⟨_, by simp [binOp, Op.intArith], .int _ _⟩
        case mul => cases h; exact ⟨_, by simp [binOp, Op.intArith], .int _ _⟩
        case quo =>
          split at h
          · cases h
          · rename_i h0
            cases h
            exact ⟨_, by simp [binOp, Op.intDiv, h0], .int _ _⟩
        case rem =>
          split at h
          · cases h
          · rename_i h0
            cases h
            exact ⟨_, by simp [binOp, Op.intDiv, h0], .int _ _⟩
        all_goals
          obtain ⟨b, hb, rfl⟩ := map_some' h
          first
            | (simp [cmpInt] at hb; done)
            | (refine ⟨.bool b, ?_, .bool b⟩
               rw [← cmp_run (P := P) (w := w) hb]
               simp [binOp])
      · cases h
    case str.str l m =>
      rw [hx.str_inv, hy.str_inv]
      have hg : (eqGuard op t ox oy (.string ⟨l.toArray⟩) (.string ⟨m.toArray⟩)).run P w = .ok () w := by cases op <;> simp [eqGuard]
      simp only [Sem.run_bind, hg, Result.andThen_ok]
      obtain ⟨cv, h1, h2⟩ := str_run (P := P) (fm := fm) (g := g) (n := n) (w := w) (op := op) (x := l) (y := m) (v := v) (by simp only [abin]; exact h)
      refine ⟨cv, ?_, h2⟩
      rw [← h1]
      cases op <;> rfl
  | bool =>
    cases x <;> cases y <;> simp only [abin] at h <;> try (cases h; done)
    rename_i b c
    rw [hx.bool_inv, hy.bool_inv]
    have hu : P.underlying t = some .bool := by
      simp only [tyOk] at ht
      split at ht
      · assumption
      · cases ht
    have he : (Op.equal t (.bool b) (.bool c)).run P w = .ok (b == c) w := by simp only [Op.equal, Op.maxDepth]; exact run_equalIn_bool' w _ t b c hu
    rcases bool_eqOp h with ⟨rfl, rfl⟩ | ⟨rfl, rfl⟩
    · exact ⟨.bool (b == c), by simp [eqGuard, binOp, he], .bool _⟩
    · exact ⟨.bool (!(b == c)), by simp [eqGuard, binOp, he], .bool _⟩
  | func =>
    have hu : ∃ a b c, P.underlying t = some (.func a b c) := by
      simp only [tyOk] at ht
      split at ht
      · exact ⟨_, _, _, by assumption⟩
      · cases ht
    obtain ⟨_, _, _, hu⟩ := hu
    cases x <;> cases y <;> simp only [abin] at h <;> try (cases h; done)
    case nilf.nilf =>
      cases hx; cases hy
      have he : (Op.equal t .nilFunc .nilFunc).run P w = .ok true w := by simp only [Op.equal, Op.maxDepth]; exact eqIn_nilf 9999 hu
      rcases bool_eqOp h with ⟨rfl, rfl⟩ | ⟨rfl, rfl⟩
      · exact ⟨.bool true, by simp [eqGuard, binOp, he], .bool _⟩
      · exact ⟨.bool (!true), by simp [eqGuard, binOp, he], .bool _⟩
    case fn.nilf =>
      have he : ∀ f us vs, (Op.equal t (.func f us vs) .nilFunc).run P w = .ok false w := fun f us vs => by simp only [Op.equal, Op.maxDepth]; exact eqIn_fn 9999 hu _ _ _
      cases hy
      cases hx
      · rcases bool_eqOp h with ⟨rfl, rfl⟩ | ⟨rfl, rfl⟩
        · exact ⟨.bool false, by simp [eqGuard, binOp, he], .bool _⟩
        · exact ⟨.bool (!false), by simp [eqGuard, binOp, he], .bool _⟩
      · rcases bool_eqOp h with ⟨rfl, rfl⟩ | ⟨rfl, rfl⟩
        · exact ⟨.bool false, by simp [eqGuard, binOp, he], .bool _⟩
        · exact ⟨.bool (!false), by simp [eqGuard, binOp, he], .bool _⟩
  | ptr =>
    have hu : ∃ e, P.underlying t = some (.pointer e) := by
      simp only [tyOk] at ht
      split at ht
      · exact ⟨_, by assumption⟩
      · cases ht
    obtain ⟨_, hu⟩ := hu
    cases x <;> cases y <;> simp only [abin] at h <;> try (cases h; done)
    case nilp.nilp =>
      cases hx; cases hy
      have he : (Op.equal t (.pointer none) (.pointer none)).run P w = .ok true w := by simp only [Op.equal, Op.maxDepth]; exact eqIn_nilp 9999 hu
      rcases bool_eqOp h with ⟨rfl, rfl⟩ | ⟨rfl, rfl⟩
      · exact ⟨.bool true, by simp [eqGuard, binOp, he], .bool _⟩
      · exact ⟨.bool (!true), by simp [eqGuard, binOp, he], .bool _⟩
    case ref.nilp =>
      cases hx; cases hy
      have he : ∀ b, (Op.equal t (.pointer (some b)) (.pointer none)).run P w = .ok false w := fun b => by simp only [Op.equal, Op.maxDepth]; exact eqIn_ref 9999 hu _
      rcases bool_eqOp h with ⟨rfl, rfl⟩ | ⟨rfl, rfl⟩
      · exact ⟨.bool false, by simp [eqGuard, binOp, he], .bool _⟩
      · exact ⟨.bool (!false), by simp [eqGuard, binOp, he], .bool _⟩
  | agg ks =>
    cases x <;> cases y <;> simp only [abin] at h <;> try (cases h; done)
    rename_i cs ds
    split at h
    · rename_i hk
      simp only [Bool.and_eq_true] at hk
      cases hx with
      | agg _ vs hcs =>
      cases hy with
      | agg _ us hds =>
      simp only [tyOk] at ht
      split at ht
      · rename_i fs hu
        simp only [Bool.and_eq_true, Bool.not_eq_true'] at ht
        obtain ⟨⟨hf, hst⟩, hgd⟩ := ht
        have hfo : P.fieldsOf t = fs := by simp [Program.fieldsOf, hu]
        have heq : (Op.equalIn 10000 t (.agg vs.toArray) (.agg us.toArray)).run P w = .ok (sameL cs ds) w := by
          rw [run_equalIn_struct w 9999 t vs.toArray us.toArray (by rw [hfo]; exact hu) hst, hfo]
          exact fields_run 9998 fs.toList ks 0 cs ds vs us [] [] hf hk.1 hk.2 hcs hds rfl rfl
        have hg := run_eqGuard_agg (P := P) w op t ox oy vs.toArray us.toArray hgd
        rcases bool_eqOp h with ⟨rfl, rfl⟩ | ⟨rfl, rfl⟩
        · exact ⟨.bool (sameL cs ds), by simp only [Sem.run_bind, hg, Result.andThen_ok, run_eql_struct, heq], .bool _⟩
        · exact ⟨.bool (!sameL cs ds), by simp only [Sem.run_bind, hg, Result.andThen_ok, run_neq_struct, heq], .bool _⟩
      · cases ht
    · cases h

end

end Go.Proofs.YtdhgdpokdhjanaaGreat.Abs
/- Loads. -/
namespace Go.Proofs.YtdhgdpokdhjanaaGreat.Abs
open Go

section
variable {P : Program} {fm : Nat → Nat} {g : Gh} {s : ASt} {n nt : Nat} {A : Frame} {a : Act} {w : World}

theorem add_mk (b off k : Nat) : (⟨b, off, none⟩ : Addr).add k = ⟨b, off + k, none⟩ := by
  unfold Addr.add
  split
  · rename_i h; subst h; rfl
  · rfl

theorem getL_lt : ∀ {os : List AObj} {n r : Nat} {o : AObj}, getL os n r = some o → r < n
  | [], _, _, _, h => by simp [getL] at h
  | _ :: _, 0, _, _, h => by simp [getL] at h
  | x :: os, n + 1, r, o, h => by
    simp only [getL] at h
    split at h
    · omega
    · have := getL_lt h; omega
theorem ASt.get_lt {r : Nat} {o : AObj} (h : s.get r = some o) : r < s.n := getL_lt h

theorem prefix_get {α : Type} {vs l : List α} {k i : Nat} {v : α} (hp : vs <+: l.drop k) (h : vs[i]? = some v) : l[k + i]? = some v := by
  obtain ⟨t, ht⟩ := hp
  have : (l.drop k)[i]? = some v := by
    rw [← ht, List.getElem?_append_left (by exact (List.getElem?_eq_some_iff.1 h).1)]; exact h
  simpa using this

theorem Sim.cell (hS : Sim fm s g w) {vs : List Value} {b base i : Nat} {v : Value} (hp : vs <+: (g.st b).drop base) (h : vs[i]? = some v) :
    w.cell? ⟨b, base + i, none⟩ = some v := by
  have h1 := prefix_get hp h
  have hne : g.st b ≠ [] := by intro e; simp [e] at h1
  obtain ⟨c, elem, fr, hb, hpre, _⟩ := hS.st b (.inl hne)
  have h2 := prefix_get (k := 0) (by simpa using hpre) h1
  simp only [World.cell?, hb]
  simpa using h2

theorem CellRep.strip {r i : Nat} {x : AVal} {v : Value} (h : CellRep fm g r i x v) (hr : r < n) : Rep fm g n x.strip v := by
  have up : ∀ {y : AVal} {u : Value}, Rep fm g (r + 1) y u → Rep fm g n y u := fun h => h.mono (le.refl _ _) (by omega)
  cases x
  case sl cs len o =>
    cases o with
    | none => exact up h.1
    | exact => exact up h.1
    | moved => exact up h.1
    | mine z =>
      obtain ⟨b, base, cap, vs, rfl, hc, hR, hp, _⟩ := h
      exact up (.sl _ _ _ _ _ _ _ (.inl rfl) hc hR hp)
    | loc r c => exact h.elim
  all_goals exact up h.1

theorem CellRep.read {r i bb : Nat} {x : AVal} {v : Value} {t : Tag} (h : CellRep fm g r i x v) (hr : r < n) (hb : g.obj r = some bb) : SlotRep fm g n t (x.read r i) v := by
  cases x
  case sl cs len o =>
    cases o with
    | none => exact (h.strip hr).slot
    | exact => exact (h.strip hr).slot
    | moved => exact (h.strip hr).slot
    | mine z =>
      have h1 := h.strip hr
      obtain ⟨b, base, cap, vs, rfl, hc, hR, hp, hx, hy, hz, hv⟩ := h
      exact ⟨h1, hr, ⟨bb, hb⟩, _, _, hv, Nat.le_refl _, fun _ => rfl⟩
    | loc r c => exact h.elim
  all_goals exact (h.strip hr).slot

theorem cells_strip {r : Nat} (hr : r < n) : ∀ {cs : List AVal} {vs : List Value} (k : Nat), cs.length = vs.length →
    (∀ i x, cs[i]? = some x → ∃ v, vs[i]? = some v ∧ CellRep fm g r (k + i) x v) → RepL fm g n (cs.map AVal.strip) vs
  | [], [], _, _, _ => .nil
  | [], _ :: _, _, h, _ => by simp at h
  | _ :: _, [], _, h, _ => by simp at h
  | x :: cs, v :: vs, k, h, hc => by
    obtain ⟨u, hu, hR⟩ := hc 0 x rfl
    simp only [List.getElem?_cons_zero, Option.some.injEq] at hu
    subst hu
    refine .cons _ _ _ _ (hR.strip hr) (cells_strip hr (k + 1) (by simpa using h) ?_)
    intro i y hy
    obtain ⟨u, hu, hR⟩ := hc (i + 1) y (by simpa using hy)
    exact ⟨u, by simpa using hu, by rw [show k + 1 + i = k + (i + 1) from by omega]; exact hR⟩

theorem cut_some {cs l : List AVal} {off k : Nat} (h : cut cs off k = some l) : off + k ≤ cs.length ∧ l = (cs.drop off).take k ∧ l.length = k := by
  unfold cut at h
  split at h
  · cases h; exact ⟨by assumption, rfl, by simp; omega⟩
  · cases h

theorem load_run {t k : Nat} {agg : Bool} {x v : AVal} {cx : Value} {tg : Tag} (hS : Sim fm s g w) (hx : Rep fm g s.n x cx) (ha : aggIs P t agg = true) (hz : sizeIs P t k = true)
    (h : loadAt s k agg x = some v) : ∃ cv, (Instr.loadAt t cx).run P w = .ok cv w ∧ SlotRep fm g s.n tg v cv := by
  cases x <;> simp only [loadAt] at h <;> try (cases h; done)
  case ref r off =>
    split at h
    · rename_i cs hr
      cases hx with
      | ref _ _ b hlt hb =>
      obtain ⟨c, elem, hw, hsz, hcells⟩ := hS.objs r _ hr b hb
      have hcell : ∀ i u, c[i]? = some u → w.cell? ⟨b, i, none⟩ = some u := fun i u hu => by simp [World.cell?, hw, hu]
      simp only [Instr.loadAt, Instr.sureAddr, loadVar, Sem.run_bind, Sem.run_pure, Result.andThen_ok, run_isAgg ha]
      cases agg with
      | true =>
        simp only [if_true] at h ⊢
        obtain ⟨l, hl, rfl⟩ := map_some' h
        obtain ⟨hle, rfl, hlen⟩ := cut_some hl
        have hall := cells_strip (n := s.n) hlt (cs := cs) (vs := c.toList) 0 (by simp [hsz]) (fun i x hx => by
          obtain ⟨u, h1, h2⟩ := hcells i x hx
          exact ⟨u, by simpa using h1, by simpa using h2⟩)
        have hpart := (hall.drop off).take k
        have hl2 : ((c.toList.drop off).take k).length = k := by simp [hsz]; omega
        have hrun := run_loadCells_list (P := P) (w := w) ⟨b, off, none⟩ ((c.toList.drop off).take k) (fun j u hu => by
          rw [add_mk]
          apply hcell
          rw [List.getElem?_take] at hu
          split at hu
          · simpa using hu
          · cases hu)
        rw [hl2] at hrun
        simp only [Sem.run_bind, run_sizeOf hz, Result.andThen_ok, hrun, Sem.run_pure]
        refine ⟨_, rfl, ?_⟩
        rw [List.map_take, List.map_drop]
        exact Rep.slot (.agg _ _ hpart)
      | false =>
        simp only [Bool.false_eq_true, if_false] at h ⊢
        obtain ⟨x, hx, rfl⟩ := map_some' h
        obtain ⟨u, hu, hR⟩ := hcells off x hx
        refine ⟨u, by simp [hcell off u hu], hR.read hlt hb⟩
    · cases h
  case ipt cs off =>
    obtain ⟨l, hl, hm⟩ := bind_some' h
    obtain ⟨hle, rfl, hlen⟩ := cut_some hl
    cases hx with
    | ipt _ _ b base vs hR hp =>
    have hcell : ∀ i u, vs[i]? = some u → w.cell? ⟨b, base + i, none⟩ = some u := fun i u hu => hS.cell hp hu
    have hlv := hR.length
    simp only [Instr.loadAt, Instr.sureAddr, loadVar, Sem.run_bind, Sem.run_pure, Result.andThen_ok, run_isAgg ha]
    cases agg with
    | true =>
      simp only [mk, if_true, Option.some.injEq] at hm ⊢
      subst hm
      have hl2 : ((vs.drop off).take k).length = k := by simp; omega
      have hrun := run_loadCells_list (P := P) (w := w) ⟨b, base + off, none⟩ ((vs.drop off).take k) (fun j u hu => by
        rw [add_mk, Nat.add_assoc]
        apply hcell
        rw [List.getElem?_take] at hu
        split at hu
        · simpa using hu
        · cases hu)
      rw [hl2] at hrun
      simp only [Sem.run_bind, run_sizeOf hz, Result.andThen_ok, hrun, Sem.run_pure]
      exact ⟨_, rfl, Rep.slot (.agg _ _ ((hR.drop off).take k))⟩
    | false =>
      simp only [mk, Bool.false_eq_true, if_false] at hm ⊢
      split at hm
      · rename_i x he
        cases hm
        have h1 : cs[off]? = some v := by
          have := congrArg (·[0]?) he
          simp only [List.getElem?_cons_zero] at this
          rw [List.getElem?_take] at this
          split at this
          · simpa using this
          · cases this
        obtain ⟨u, hu, hR'⟩ := hR.get off v h1
        exact ⟨u, by simp [hcell off u hu], hR'.slot⟩
      · cases hm

end
end Go.Proofs.YtdhgdpokdhjanaaGreat.Abs
/- The other operations that only compute. -/
namespace Go.Proofs.YtdhgdpokdhjanaaGreat.Abs
open Go

section
variable {P : Program} {fm : Nat → Nat} {g : Gh} {s : ASt} {n nt : Nat} {A : Frame} {a : Act} {w : World}

/-! ### Cells laid over others -/

theorem set_take_drop {α : Type} (l : List α) (i : Nat) (v : α) (m : Nat) (h : i < l.length) :
    (l.set i v).take (i + 1) = l.take i ++ [v] ∧ (l.set i v).drop (i + 1 + m) = l.drop (i + 1 + m) := by
  rw [List.set_eq_take_append_cons_drop, if_pos h]
  have e : (l.take i).length = i := by simp; omega
  constructor
  · rw [List.take_append, e, List.take_of_length_le (by omega)]
    simp
  · rw [List.drop_append, e, List.drop_of_length_le (by omega)]
    simp only [List.nil_append]
    rw [show i + 1 + m - i = m + 1 from by omega]
    simp [Nat.add_comm, Nat.add_left_comm]

theorem foldl_set (off : Nat) : ∀ (new : List Value) (k : Nat) (cells : Array Value), off + k + new.length ≤ cells.size →
    ((new.zipIdx k).foldl (fun (cs : Array Value) (x : Value × Nat) => cs.setIfInBounds (off + x.2) x.1) cells).toList =
      cells.toList.take (off + k) ++ new ++ cells.toList.drop (off + k + new.length)
  | [], k, cells, h => by simp
  | v :: new, k, cells, h => by
    simp only [List.length_cons] at h
    rw [List.zipIdx_cons, List.foldl_cons, foldl_set off new (k + 1) _ (by simp; omega)]
    have hlt : off + k < cells.toList.length := by simp; omega
    obtain ⟨h1, h2⟩ := set_take_drop cells.toList (off + k) v new.length hlt
    simp only [Array.toList_setIfInBounds]
    rw [show off + (k + 1) = off + k + 1 from rfl, h1, h2]
    simp [Nat.add_comm, Nat.add_left_comm]

theorem fill_run {place : Nat → Option (Nat × Nat)} (hF : FrameRep fm g n nt A a.tmps) : ∀ {parts : List (Nat × Nat × Opd)} {ps : List (Nat × Operand)} {cs r : List AVal} {vs : Array Value},
    partsOk fm place parts ps = true → RepL fm g n cs vs.toList → fill cs (parts.map fun (i, k, x) => (i, k, x.ev A)) = some r →
    ∃ us : Array Value, Instr.fill place vs (ps.map fun (i, x) => (i, a.eval x)) = some us ∧ RepL fm g n r us.toList ∧ us.size = vs.size
  | [], [], cs, r, vs, _, hr, h => by
    simp only [List.map_nil, fill, Option.some.injEq] at h
    subst h
    exact ⟨vs, rfl, hr, rfl⟩
  | [], _ :: _, _, _, _, h, _, _ => by simp [partsOk] at h
  | (_, _, _) :: _, [], _, _, _, h, _, _ => by simp [partsOk] at h
  | (off, k, x) :: parts, (i, y) :: ps, cs, r, vs, hok, hr, h => by
    simp only [partsOk, Bool.and_eq_true, beq_iff_eq] at hok
    obtain ⟨⟨hpl, hxy⟩, hrest⟩ := hok
    simp only [List.map_cons, fill] at h
    split at h
    · rename_i hc
      obtain ⟨hk, hlen, hle⟩ := hc
      have hx := okOpd_rep hF hxy
      have hcells := hx.cells hk
      have hl2 := hcells.length
      have hl1 := hr.length
      have hsz : (a.eval y).cells.size = k := by rw [← Array.length_toList, ← hl2, hlen]
      have hl3 : cs.length = vs.size := by rw [hl1]; simp
      have hl4 : (a.eval y).cells.toList.length = k := by simp [hsz]
      have key := foldl_set off (a.eval y).cells.toList 0 vs (by rw [hl4]; omega)
      simp only [List.map_cons, Instr.fill, hpl]
      rw [if_neg (by simp [hsz]; omega)]
      rw [← Array.foldl_toList, Array.toList_zipIdx]
      generalize List.foldl _ _ _ = X at *
      have hsz2 : X.size = vs.size := by
        have := congrArg List.length key
        simp at this
        omega
      obtain ⟨us, h1, h2, h3⟩ := fill_run hF (cs := splice cs off (x.ev A).cells) (vs := X) hrest (by
        rw [key]
        unfold splice
        simp only [Nat.add_zero]
        rw [← hl2]
        exact ((hr.take off).append hcells).append (hr.drop _)) h
      exact ⟨us, h1, h2, h3.trans hsz2⟩
    · cases h

end
end Go.Proofs.YtdhgdpokdhjanaaGreat.Abs
/- All operations that only compute. -/
namespace Go.Proofs.YtdhgdpokdhjanaaGreat.Abs
open Go

section
variable {P : Program} {fm : Nat → Nat} {g : Gh} {s : ASt} {n nt : Nat} {A : Frame} {a : Act} {w : World}

theorem zero_run {t : Nat} {cs : List AVal} (h : zeroOk P t cs = true) : ∃ z, (zeroValue t).run P w = .ok z w ∧ litOkL cs z.cells.toList = true := by
  unfold zeroOk at h
  split at h
  · rename_i i hi
    split at h
    · rename_i z hz
      exact ⟨z, by simp [zeroValue, run_typeInfo hi, hz], h⟩
    · cases h
  · cases h

theorem run_mapM {α β : Type} (f : α → Sem β) (r : α → Option β) (w : World) : ∀ (l : List α), (∀ x ∈ l, ∃ y, r x = some y ∧ (f x).run P w = .ok y w) →
    ∃ ys, (l.mapM f).run P w = .ok ys w ∧ l.map r = ys.map some
  | [], _ => ⟨[], by simp, rfl⟩
  | x :: l, h => by
    obtain ⟨y, hy, hr⟩ := h x (by simp)
    obtain ⟨ys, h1, h2⟩ := run_mapM f r w l (fun z hz => h z (by simp [hz]))
    exact ⟨y :: ys, by simp [List.mapM_cons, hr, h1], by simp [hy, h2]⟩

theorem build_run {t : Nat} {zero r : List AVal} {parts : List (Nat × Nat × Opd)} {ps : Array (Nat × Operand)} {fs : Array Field} (hF : FrameRep fm g n nt A a.tmps)
    (hu : P.underlying t = some (.struct fs)) (hz : zeroOk P t zero = true) (hp : partsOk fm (fieldAt P fs) parts ps.toList = true) (ha : (fs.all fun f => (P.info? f.type).isSome) = true)
    (h : fill zero (parts.map fun (i, k, x) => (i, k, x.ev A)) = some r) :
    ∃ cv, (Instr.build t (ps.map fun (i, x) => (i, a.eval x))).run P w = .ok cv w ∧ Rep fm g n (.agg r) cv := by
  obtain ⟨z, hzr, hzl⟩ := zero_run (P := P) (w := w) hz
  obtain ⟨us, h1, h2, _⟩ := fill_run hF (vs := z.cells) hp (litOkL_rep fm g n hzl) h
  have hm : ∃ ys : Array (Nat × Nat), (fs.mapM (fun f => (do pure (f.offset, ← sizeOf f.type) : Sem (Nat × Nat)))).run P w = .ok ys w ∧ ∀ i, ys[i]? = fieldAt P fs i := by
    obtain ⟨ys, hy1, hy2⟩ := run_mapM (P := P) (fun f : Field => (do pure (f.offset, ← sizeOf f.type) : Sem (Nat × Nat))) (fun f => (P.info? f.type).map fun j => (f.offset, j.size)) w fs.toList (by
      intro f hf
      have := Array.all_eq_true_iff_forall_mem.1 ha f (by simpa using hf)
      obtain ⟨j, hj⟩ := Option.isSome_iff_exists.1 this
      exact ⟨(f.offset, j.size), by simp [hj], by simp [sizeOf, run_typeInfo hj]⟩)
    refine ⟨ys.toArray, ?_, ?_⟩
    · rw [Array.mapM_eq_mapM_toList]
      simp only [Sem.run_map, hy1, Result.andThen_ok]
    · intro i
      have := congrArg (·[i]?) hy2
      simp only [List.getElem?_map, Array.getElem?_toList] at this
      unfold fieldAt
      simp only [List.getElem?_toArray]
      cases hfi : fs[i]? <;> cases hyi : ys[i]? <;> simp only [hfi, hyi, Option.map_none, Option.map_some, Option.some.injEq, reduceCtorEq] at this
      · rfl
      · exact this.symm
  obtain ⟨ys, hy1, hy2⟩ := hm
  refine ⟨.agg us, ?_, ?_⟩
  · have e : (fun i => ys[i]?) = fieldAt P fs := funext hy2
    simp only [Instr.build, Sem.run_bind, hzr, Result.andThen_ok, run_underlying hu, hy1]
    have e2 : ((ps.map fun (i, x) => (i, a.eval x)).toList) = ps.toList.map fun (i, x) => (i, a.eval x) := by simp
    rw [e, e2, h1]
    simp
  · have := Rep.agg (fm := fm) (g := g) (n := n) r us.toList h2
    simpa using this

theorem un_run {op : UnOp} {t : Nat} {x v : AVal} {cx : Value} (hx : Rep fm g n x cx) (h : aun op x = some v) : ∃ cv, (Op.unary op cx).run P w = .ok cv w ∧ Rep fm g n v cv := by
  cases op <;> cases x <;> simp only [aun] at h <;> try (cases h; done)
  · cases h
    rw [hx.int_inv]
    exact ⟨_, by simp [Op.unary, Op.intArith], .int _ _⟩
  · cases h
    rw [hx.bool_inv]
    exact ⟨_, by simp [Op.unary], .bool _⟩

theorem conv_run {k : Cv} {t u : Nat} {x v : AVal} {cx : Value} (hx : Rep fm g n x cx) (hk : k = .same ∨ ∃ j, k = .int j) (ho : convOk P t u k = true) (h : aconv k x = some v) :
    ∃ cv, (convert t u cx).run P w = .ok cv w ∧ Rep fm g n v cv := by
  rcases hk with rfl | ⟨j, rfl⟩
  · cases x <;> simp only [aconv] at h <;> try (cases h; done)
    cases h
    rw [hx.str_inv]
    simp only [convOk] at ho
    split at ho
    · rename_i d h1 h2
      refine ⟨.string ⟨_⟩, ?_, .str _⟩
      simp only [convert, Sem.run_bind, run_underlying h1, run_underlying h2, Result.andThen_ok]
      cases d <;> simp
    · cases ho
  · cases x <;> simp only [aconv] at h <;> try (cases h; done)
    cases h
    rw [hx.int_inv]
    simp only [convOk] at ho
    split at ho
    · rename_i d jj h1 h2
      have hj : j = jj := by simpa using ho
      subst hj
      refine ⟨.int _ _, ?_, .int _ _⟩
      simp only [convert, Sem.run_bind, run_underlying h1, run_underlying h2, Result.andThen_ok]
      simp [Conv.intToInt]
    · cases ho

theorem asIntOf_run (k : IntKind) (i : Int) : (asIntOf (.int k i)).run P w = .ok (k, i) w := by simp [asIntOf]

theorem natOf_some {x : AVal} {k : Nat} (h : natOf x = some k) : ∃ j i, x = .int j i ∧ 0 ≤ i ∧ i.toNat = k := by
  cases x <;> simp only [natOf] at h <;> try (cases h; done)
  split at h
  · cases h; exact ⟨_, _, rfl, by assumption, rfl⟩
  · cases h

/-- A bound that is given, or not. -/
theorem bound_run {x : Option Opd} {y : Option Operand} {d k : Nat} (hF : FrameRep fm g n nt A a.tmps) (hok : okOpdO fm x y = true) (h : bound d (x.map (·.ev A)) = some k) :
    (y = none ∧ k = d) ∨ ∃ o j i, y = some o ∧ a.eval o = .int j i ∧ 0 ≤ i ∧ i.toNat = k := by
  cases x <;> cases y <;> simp [okOpdO] at hok
  · simp [bound] at h; exact .inl ⟨rfl, h.symm⟩
  · simp only [Option.map_some, bound] at h
    obtain ⟨j, i, e, h0, h1⟩ := natOf_some h
    have := okOpd_rep hF hok
    rw [e] at this
    exact .inr ⟨_, j, i, rfl, this.int_inv, h0, h1⟩

theorem sliceBound_run {k : IntKind} {i : Int} {y : Nat} {code : BoundsCode} (h0 : 0 ≤ i) (h1 : i.toNat ≤ y) : (Instr.sliceBound (.int k i) y code).run P w = .ok i.toNat w :=
  run_sliceBound w k i y code h0 (by omega)

theorem sliceBounds_run {isSlice : Bool} {len cap lo hi : Nat} {l h : Option Operand} (hl : (l = none ∧ lo = 0) ∨ ∃ o j i, l = some o ∧ a.eval o = .int j i ∧ 0 ≤ i ∧ i.toNat = lo)
    (hh : (h = none ∧ hi = len) ∨ ∃ o j i, h = some o ∧ a.eval o = .int j i ∧ 0 ≤ i ∧ i.toNat = hi) (h1 : lo ≤ hi) (h2 : hi ≤ cap) :
    (Instr.sliceBounds isSlice len cap (l.map a.eval) (h.map a.eval) none).run P w = .ok (lo, hi, cap) w := by
  rcases hl with ⟨rfl, rfl⟩ | ⟨o, j, i, rfl, e1, h0, rfl⟩ <;> rcases hh with ⟨rfl, rfl⟩ | ⟨o', j', i', rfl, e2, h0', rfl⟩
  · simp [Instr.sliceBounds]
  · simp [Instr.sliceBounds, e2, sliceBound_run h0' h2]
  · simp [Instr.sliceBounds, e1, sliceBound_run h0 h1]
  · simp [Instr.sliceBounds, e1, e2, sliceBound_run h0' h2, sliceBound_run h0 h1]

theorem take_drop_pre {α : Type} {vs l : List α} {k i j : Nat} (hp : vs <+: l.drop k) : (vs.take j).drop i <+: l.drop (k + i) := by
  obtain ⟨t, ht⟩ := hp
  have : l.drop (k + i) = (l.drop k).drop i := by simp
  rw [this, ← ht]
  by_cases hi : i ≤ vs.length
  · rw [List.drop_append_of_le_length hi]
    refine List.IsPrefix.trans ?_ (List.prefix_append _ _)
    rw [List.drop_take]
    exact List.take_prefix _ _
  · rw [List.drop_of_length_le (by simp; omega)]
    exact List.nil_prefix

theorem slice_run {str : Bool} {size t : Nat} {x v : AVal} {cx : Value} {lo hi : Option Opd} {l h : Option Operand} (hF : FrameRep fm g n nt A a.tmps) (hx : Rep fm g n x cx)
    (hl : okOpdO fm lo l = true) (hh : okOpdO fm hi h = true) (ht : (match P.underlying t with | some .string => str | some (.slice e) => !str && sizeIs P e size | _ => false) = true)
    (hv : aslice str size x (lo.map (·.ev A)) (hi.map (·.ev A)) = some v) : ∃ cv, (Instr.sliceAt t cx (l.map a.eval) (h.map a.eval) none).run P w = .ok cv w ∧ Rep fm g n v cv := by
  cases str with
  | true =>
    have hu : P.underlying t = some .string := by
      split at ht
      · assumption
      · simp at ht
      · cases ht
    cases x <;> simp only [aslice] at hv <;> try (cases hv; done)
    rename_i cs
    obtain ⟨h', hb1, hv⟩ := bind_some' hv
    obtain ⟨o', hb2, hv⟩ := bind_some' hv
    split at hv
    · rename_i hc
      cases hv
      rw [hx.str_inv]
      have hsz : (ByteArray.mk cs.toArray).size = cs.length := by simp [ByteArray.size]
      have hb := sliceBounds_run (P := P) (w := w) (isSlice := false) (len := cs.length) (cap := cs.length) (bound_run hF hl hb2) (bound_run hF hh hb1) hc.1 hc.2
      refine ⟨.string ⟨((cs.take h').drop o').toArray⟩, ?_, .str _⟩
      simp only [Instr.sliceAt, Sem.run_bind, run_underlying hu, Result.andThen_ok, Instr.slice, hsz, hb, Sem.run_pure, Option.isSome_none, Bool.false_eq_true, if_false]
      congr 2
      apply ByteArray.ext
      simp [ByteArray.data_extract, List.drop_take]
    · cases hv
  | false =>
    have hu : ∃ e, P.underlying t = some (.slice e) ∧ sizeIs P e size = true := by
      split at ht
      · cases ht
      · exact ⟨_, by assumption, by simpa using ht⟩
      · cases ht
    obtain ⟨e, hu, hz⟩ := hu
    cases x <;> simp only [aslice] at hv <;> try (cases hv; done)
    case nils =>
      obtain ⟨h', hb1, hv2⟩ := bind_some' hv
      clear hv
      obtain ⟨o', hb2, hv3⟩ := bind_some' hv2
      clear hv2
      split at hv3
      · rename_i hc
        obtain ⟨rfl, rfl⟩ := hc
        have hv4 := Option.some.inj hv3
        subst hv4
        cases hx
        have hb := sliceBounds_run (P := P) (w := w) (isSlice := true) (len := 0) (cap := 0) (bound_run hF hl hb2) (bound_run hF hh hb1) (Nat.le_refl _) (Nat.le_refl _)
        refine ⟨.slice none 0 0, ?_, .nils⟩
        simp only [Instr.sliceAt, Sem.run_bind, run_underlying hu, Result.andThen_ok, Instr.slice, hb, run_sizeOf hz, Sem.run_pure, if_true, Nat.sub_zero]
      · cases hv3
    case sl cs len o =>
      obtain ⟨h', hb1, hv⟩ := bind_some' hv
      obtain ⟨o', hb2, hv⟩ := bind_some' hv
      split at hv
      · rename_i hc
        cases hv
        cases hx with
        | sl0 ad cap =>
          have hb := sliceBounds_run (P := P) (w := w) (isSlice := true) (len := 0) (cap := cap) (bound_run hF hl hb2) (bound_run hF hh hb1) hc.1 (by omega)
          have h0 : h' = 0 := by omega
          have o0 : o' = 0 := by omega
          subst h0
          subst o0
          simp only [Instr.sliceAt, Sem.run_bind, run_underlying hu, Result.andThen_ok, Instr.slice, hb, run_sizeOf hz, Sem.run_pure]
          refine ⟨_, rfl, ?_⟩
          have e1 : (([] : List AVal).take (0 * size)).drop (0 * size) = [] := by simp
          have e2 : (if True ∧ Own.none = Own.exact then Own.exact else Own.none) = Own.none := by simp
          rw [e1, e2]
          split
          · exact .sl0 _ _
          · exact .sl0 _ _
        | sl _ _ _ b base cap vs ho hcap hR hp =>
        have hb := sliceBounds_run (P := P) (w := w) (isSlice := true) (len := len) (cap := cap) (bound_run hF hl hb2) (bound_run hF hh hb1) hc.1 (by omega)
        have hb' : base + o' * size = base + o' * size := rfl
        simp only [Instr.sliceAt, Sem.run_bind, run_underlying hu, Result.andThen_ok, Instr.slice, hb, run_sizeOf hz, Sem.run_pure]
        refine ⟨_, rfl, ?_⟩
        have hown : (if h' = len ∧ o = Own.exact then Own.exact else Own.none) = .none ∨ ((if h' = len ∧ o = Own.exact then Own.exact else Own.none) = .exact ∧ cap - o' = h' - o') := by
          split
          · rename_i hh
            obtain ⟨hh1, hh2⟩ := hh
            rcases ho with ho | ⟨_, hcl⟩
            · rw [hh2] at ho; cases ho
            · exact .inr ⟨rfl, by omega⟩
          · exact .inl rfl
        generalize (if h' = len ∧ o = Own.exact then Own.exact else Own.none) = own' at hown ⊢
        have hR' := (hR.take (h' * size)).drop (o' * size)
        by_cases hco : cap = o'
        · have he : (cs.take (h' * size)).drop (o' * size) = [] := by
            apply List.drop_of_length_le
            have : h' = o' := by omega
            subst this
            simp
            omega
          rw [he] at hR' ⊢
          rw [if_pos hco]
          exact .sl _ _ _ b base _ [] hown (by omega) .nil List.nil_prefix
        · rw [if_neg hco]
          simp only [Option.map_some, add_mk]
          exact .sl _ _ _ b _ _ _ hown (by omega) hR' (take_drop_pre hp)
      · cases hv

theorem makeFn_args {xs : List Opd} {ys : Array Operand} (hF : FrameRep fm g n nt A a.tmps) (h : okOpds fm xs ys.toList = true) : RepL fm g n (xs.map (·.ev A)) (ys.map a.eval).toList := by
  simpa using okOpds_rep hF h

end
end Go.Proofs.YtdhgdpokdhjanaaGreat.Abs
/- Look-ups; all operations that only compute, in one theorem. -/
namespace Go.Proofs.YtdhgdpokdhjanaaGreat.Abs
open Go

section
variable {P : Program} {fm : Nat → Nat} {g : Gh} {s : ASt} {n nt : Nat} {A : Frame} {a : Act} {w : World}

/-- The description of a key's type of a kind. -/
def descOk : KT → TypeDesc → Bool
  | .int, .int _ => true
  | .str, .string => true
  | .bool, .bool => true
  | _, _ => false

theorem keq_run {kt : KT} {d : TypeDesc} {x y : AVal} {cx cy : Value} {b : Bool} (hd : descOk kt d = true) (hx : Rep fm g n x cx) (hy : Rep fm g n y cy) (h : keq kt x y = some b) :
    Instr.sameNow d cx cy = some b := by
  cases kt <;> cases d <;> simp [descOk] at hd
  case int.int =>
    cases x <;> cases y <;> simp only [keq] at h <;> try (cases h; done)
    rw [hx.int_inv, hy.int_inv]
    simp only [Instr.sameNow]
    split at h
    · rename_i e
      subst e
      cases h
      simp only [if_true, Option.some.injEq]
      rfl
    · cases h
  case str.string =>
    cases x <;> cases y <;> simp only [keq] at h <;> try (cases h; done)
    rw [hx.str_inv, hy.str_inv]
    cases h
    simp only [Instr.sameNow, beq_toListBytes, toList_mk]
  case bool.bool =>
    cases x <;> cases y <;> simp only [keq] at h <;> try (cases h; done)
    rw [hx.bool_inv, hy.bool_inv]
    cases h
    rfl

theorem checkKey_run (m : Nat) {kt : KT} {d : TypeDesc} {t : Nat} {v : Value} {e : Bool} (hd : descOk kt d = true) (hu : P.underlying t = some d) : (Instr.checkKey e (m + 1) t v).run P w = .ok () w := by
  simp only [Instr.checkKey, Sem.run_bind, run_underlying hu, Result.andThen_ok]
  cases kt <;> cases d <;> simp [descOk] at hd <;> cases v <;> simp

def FoundAt (fm : Nat → Nat) (g : Gh) (n : Nat) : Option AVal → Option (Nat × Value) → Prop
  | none, none => True
  | some v, some (_, cv) => Rep fm g n v cv
  | _, _ => False

theorem find_run {kt : KT} {d : TypeDesc} {k : AVal} {ck : Value} (hd : descOk kt d = true) (hk : Rep fm g n k ck) : ∀ (es : List MapEntry) (i : Nat) (ks vs : List AVal) (r : Option AVal),
    RepL fm g n ks (es.map (·.key)) → RepL fm g n vs (es.map (·.val)) → find kt k ks vs = some r → ∃ o, Instr.findNow d ck es i = some o ∧ FoundAt fm g n r o
  | [], i, ks, vs, r, h1, h2, h => by
    cases h1
    cases h2
    simp only [find, Option.some.injEq] at h
    subst h
    exact ⟨none, rfl, trivial⟩
  | e :: es, i, ks, vs, r, h1, h2, h => by
    cases h1 with
    | cons x _ ks _ hx hks =>
    cases h2 with
    | cons y _ vs _ hy hvs =>
    simp only [find] at h
    split at h
    · rename_i hq
      cases h
      exact ⟨some (i, e.val), by simp [Instr.findNow, keq_run hd hk hx hq], hy⟩
    · rename_i hq
      obtain ⟨o, h3, h4⟩ := find_run hd hk es (i + 1) ks vs r hks hvs h
      exact ⟨o, by simp [Instr.findNow, keq_run hd hk hx hq, h3], h4⟩
    · cases h

theorem keyOk_some {t : Nat} {kt : KT} (h : keyOk P t kt = true) : ∃ k e d, P.underlying t = some (.map k e) ∧ P.underlying k = some d ∧ descOk kt d = true := by
  unfold keyOk at h
  split at h
  · rename_i k e hu
    split at h
    · exact ⟨k, e, _, hu, by assumption, rfl⟩
    · exact ⟨k, e, _, hu, by assumption, rfl⟩
    · exact ⟨k, e, _, hu, by assumption, rfl⟩
    · cases h
  · cases h

theorem zval_run {t : Nat} {z : AVal} (h : zvalOk P t z = true) : ∃ cz, (zeroValue t).run P w = .ok cz w ∧ Rep fm g n z cz := by
  unfold zvalOk at h
  split at h
  · rename_i i hi
    split at h
    · rename_i zs cs hz
      exact ⟨.agg zs, by simp [zeroValue, run_typeInfo hi, hz], by have := Rep.agg (fm := fm) (g := g) (n := n) cs zs.toList (litOkL_rep fm g n h); simpa using this⟩
    · rename_i cz hz _
      exact ⟨cz, by simp [zeroValue, run_typeInfo hi, hz], litOk_rep fm g n h⟩
    · cases h
  · cases h

/-- The entries of a map, as they lie. -/
theorem entries_run {m : AVal} {cm : Value} {ks vs : List AVal} (hS : Sim fm s g w) (hm : Rep fm g s.n m cm) (h : entries s m = some (ks, vs)) :
    ∃ (es : Array MapEntry) (ks0 vs0 : List AVal), (cm = .map none ∧ es = #[] ∨ ∃ b clock, cm = .map (some b) ∧ w.heap[b]? = some (.map es clock)) ∧
      RepL fm g s.n ks0 (es.toList.map (·.key)) ∧ RepL fm g s.n vs0 (es.toList.map (·.val)) ∧ ∀ kt k, find kt k ks vs = find kt k ks0 vs0 := by
  cases m <;> simp only [entries] at h <;> try (cases h; done)
  case nilm =>
    cases h
    cases hm
    exact ⟨#[], [], [], .inl ⟨rfl, rfl⟩, .nil, .nil, fun _ _ => rfl⟩
  case map r =>
    split at h
    · rename_i ks' vs' hr
      cases h
      cases hm with
      | map _ b hlt hb =>
      obtain ⟨es, clock, h1, h2, h3⟩ := hS.objs r _ hr b hb
      exact ⟨es, _, _, .inr ⟨b, clock, rfl, h1⟩, h2.mono (le.refl _ _) (by omega), h3.mono (le.refl _ _) (by omega), fun _ _ => rfl⟩
    · cases h
  case imap ks' vs' =>
    cases h
    cases hm with
    | imap _ _ b cks cvs hb hk hv =>
      obtain ⟨es, clock, h1, h2, h3⟩ := hS.mst b cks cvs hb
      exact ⟨es, _, _, .inr ⟨b, clock, rfl, h1⟩, by rw [h2]; exact hk, by rw [h3]; exact hv, fun _ _ => rfl⟩
    | imapU _ _ ks0 vs0 b cks cvs hb hk hv hf hu =>
      obtain ⟨es, clock, h1, h2, h3⟩ := hS.mst b cks cvs hb
      exact ⟨es, ks0, vs0, .inr ⟨b, clock, rfl, h1⟩, by rw [h2]; exact hk, by rw [h3]; exact hv, hf⟩

theorem lookup_run {kt : KT} {t : Nat} {zero m k : AVal} {cm ck : Value} {ok : Bool} {ks vs : List AVal} {r : Option AVal} (hS : Sim fm s g w) (hm : Rep fm g s.n m cm) (hk : Rep fm g s.n k ck)
    (hkt : keyOk P t kt = true) (hz : (match P.underlying t with | some (.map _ e) => zvalOk P e zero | _ => false) = true) (he : entries s m = some (ks, vs)) (hf : find kt k ks vs = some r) :
    ∃ cv, (Instr.lookup t cm ck ok).run P w = .ok cv w ∧ Rep fm g s.n (if ok then .tup [r.getD zero, .bool r.isSome] else r.getD zero) cv := by
  obtain ⟨key, e, d, hu, hud, hd⟩ := keyOk_some hkt
  rw [hu] at hz
  obtain ⟨cz, hz1, hz2⟩ := zval_run (fm := fm) (g := g) (n := s.n) (w := w) hz
  obtain ⟨es, ks0, vs0, hes, hks, hvs, hfeq⟩ := entries_run hS hm he
  rw [hfeq] at hf
  obtain ⟨o, ho, hfo⟩ := find_run hd hk es.toList 0 ks0 vs0 r hks hvs hf
  have hfind : (Instr.findKey key ck es.toList).run P w = .ok o w := by
    simp only [Instr.findKey, Sem.run_bind, run_underlying hud, Result.andThen_ok, ho, Sem.run_pure]
  have hch : (Instr.checkKey es.isEmpty 10000 key ck).run P w = .ok () w := checkKey_run 9999 hd hud
  have key2 : ∀ v b, ((o = none ∧ v = cz ∧ b = false) ∨ ∃ i, o = some (i, v) ∧ b = true) →
      (Instr.lookup t cm ck ok).run P w = .ok (if ok then .tuple #[v, .bool b] else v) w := by
    intro v b hvb
    rcases hes with ⟨rfl, rfl⟩ | ⟨bl, clock, rfl, hb⟩
    · have hnone : o = none := by
        simp [Instr.findNow] at ho
        exact ho.symm
      subst hnone
      rcases hvb with ⟨_, rfl, rfl⟩ | ⟨i, hh, _⟩
      · have hch' : (Instr.checkKey true 10000 key ck).run P w = .ok () w := hch
        have hf' : (Instr.findKey key ck []).run P w = .ok none w := hfind
        simp [Instr.lookup, run_underlying hu, hch', hf', hz1]
      · cases hh
    · have hgo : (getObj bl).run P w = .ok (.map es clock) w := by simp [getObj, Sem.run, hb]
      rcases hvb with ⟨rfl, rfl, rfl⟩ | ⟨i, rfl, rfl⟩
      · simp only [Instr.lookup, Sem.run_bind, run_underlying hu, Result.andThen_ok, hgo, Sem.run_pure, hch, hfind, hz1]
      · simp only [Instr.lookup, Sem.run_bind, run_underlying hu, Result.andThen_ok, hgo, Sem.run_pure, hch, hfind]
  cases r with
  | none =>
    cases o with
    | none =>
      refine ⟨_, key2 cz false (.inl ⟨rfl, rfl, rfl⟩), ?_⟩
      cases ok with
      | true => exact .tup _ [cz, .bool false] (.cons _ _ _ _ hz2 (.cons _ _ _ _ (.bool _) .nil))
      | false => exact hz2
    | some x => exact hfo.elim
  | some v =>
    cases o with
    | none => exact hfo.elim
    | some x =>
      obtain ⟨i, cv⟩ := x
      refine ⟨_, key2 cv true (.inr ⟨i, rfl, rfl⟩), ?_⟩
      cases ok with
      | true => exact .tup _ [cv, .bool true] (.cons _ _ _ _ hfo (.cons _ _ _ _ (.bool _) .nil))
      | false => exact hfo

end
end Go.Proofs.YtdhgdpokdhjanaaGreat.Abs
