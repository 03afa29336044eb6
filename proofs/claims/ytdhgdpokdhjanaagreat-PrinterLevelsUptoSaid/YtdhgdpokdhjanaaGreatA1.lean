/- The abstract interpreter: values, states, instructions, and what they do. No program and no memory here. -/
import GoSem.Core.View
set_option linter.unusedSimpArgs false
set_option linter.unusedVariables false
namespace Go.Proofs.YtdhgdpokdhjanaaGreat.Abs
open Go

/-- What is known of the spare places behind a slice: nothing; there are none; this very value owns them; it owned them; the cell c of object r holds the same slice. -/
inductive Own where
  | none | exact | moved
  | mine (size : Nat)
  | loc (r c : Nat)
  deriving DecidableEq, Repr, Inhabited

inductive AVal where
  | undef
  | bool (b : Bool)
  | int (k : IntKind) (n : Int)
  | str (l : List UInt8)
  | nilp | nils | nilm | nilf | nili
  | ref (r off : Nat)
  | ipt (cs : List AVal) (off : Nat)
  | sl (cs : List AVal) (len : Nat) (o : Own)
  | map (r : Nat)
  | imap (ks vs : List AVal)
  | fn (f : Nat) (first captured : List AVal)
  | agg (cs : List AVal)
  | tup (vs : List AVal)
  deriving Inhabited

def Own.under (n : Nat) : Own → Bool
  | .loc r _ => decide (r < n)
  | _ => true

mutual
def AVal.under (n : Nat) : AVal → Bool
  | .ref r _ => decide (r < n)
  | .map r => decide (r < n)
  | .ipt cs _ => underL n cs
  | .sl cs _ o => underL n cs && o.under n
  | .imap ks vs => underL n ks && underL n vs
  | .fn _ a b => underL n a && underL n b
  | .agg cs => underL n cs
  | .tup vs => underL n vs
  | _ => true
def underL (n : Nat) : List AVal → Bool
  | [] => true
  | a :: l => a.under n && underL n l
end

mutual
def AVal.same : AVal → AVal → Bool
  | .undef, .undef => true
  | .bool a, .bool b => a == b
  | .int k a, .int j b => k == j && a == b
  | .str a, .str b => a == b
  | .nilp, .nilp => true
  | .nils, .nils => true
  | .nilm, .nilm => true
  | .nilf, .nilf => true
  | .nili, .nili => true
  | .ref r o, .ref q p => r == q && o == p
  | .ipt a o, .ipt b p => sameL a b && o == p
  | .sl a n o, .sl b m p => sameL a b && n == m && o == p
  | .map r, .map q => r == q
  | .imap a b, .imap c d => sameL a c && sameL b d
  | .fn f a b, .fn g c d => f == g && sameL a c && sameL b d
  | .agg a, .agg b => sameL a b
  | .tup a, .tup b => sameL a b
  | _, _ => false
def sameL : List AVal → List AVal → Bool
  | [], [] => true
  | a :: l, b :: m => a.same b && sameL l m
  | _, _ => false
end

/-- A value as it is handed on or laid somewhere: nothing is known any more of the places behind it. -/
def AVal.strip : AVal → AVal
  | .sl cs n (.mine _) => .sl cs n .none
  | .sl cs n .moved => .sl cs n .none
  | .sl cs n (.loc _ _) => .sl cs n .none
  | v => v

/-- bld: a strings.Builder, and what it has been written. -/
inductive AObj where
  | cells (cs : List AVal)
  | bld (l : List UInt8)
  | map (ks vs : List AVal)
  | dead
  deriving Inhabited

/-- The objects, the newest first; n is their number. -/
structure ASt where
  n : Nat
  os : List AObj
  deriving Inhabited

def getL : List AObj → Nat → Nat → Option AObj
  | [], _, _ => none
  | _ :: _, 0, _ => none
  | o :: os, n + 1, r => if r = n then some o else getL os n r
def setL : List AObj → Nat → Nat → AObj → List AObj
  | [], _, _, _ => []
  | o :: os, 0, _, _ => o :: os
  | o :: os, n + 1, r, x => if r = n then x :: os else o :: setL os n r x
def ASt.get (s : ASt) (r : Nat) : Option AObj := getL s.os s.n r
def ASt.set (s : ASt) (r : Nat) (x : AObj) : ASt := ⟨s.n, setL s.os s.n r x⟩
def ASt.push (s : ASt) (x : AObj) : ASt := ⟨s.n + 1, x :: s.os⟩
def ASt.trunc (n : Nat) (s : ASt) : ASt := ⟨n, s.os.drop (s.n - n)⟩

abbrev Frame := List (Nat × AVal)
def Frame.get : Frame → Nat → AVal
  | [], _ => .undef
  | (k, v) :: A, d => if k = d then v else Frame.get A d
def Frame.put (A : Frame) (d : Nat) (v : AVal) : Frame := (d, v) :: A
def Frame.putO (A : Frame) : Option Nat → AVal → Frame
  | some d, v => A.put d v
  | none, _ => A

inductive Opd where
  | tmp (d : Nat)
  | val (a : AVal)
  | fn (i : Nat)
  deriving Inhabited

/-- An operand's value, as it is handed on. -/
def Opd.ev (A : Frame) : Opd → AVal
  | .tmp d => (A.get d).strip
  | .val a => a
  | .fn i => .fn i [] []

/-- A frame in which the value of an operand has been handed on with all that it owns. -/
def Opd.taken (A : Frame) : Opd → AVal × Frame
  | .tmp d => match A.get d with
    | .sl cs n (.mine z) => (.sl cs n (.mine z), A.put d (.sl cs n .none))
    | x => (x.strip, A)
  | .val a => (a, A)
  | .fn i => (.fn i [] [], A)

inductive Cv where
  | int (k : IntKind)
  | same
  | strBytes
  | bytesStr
  deriving DecidableEq, Repr, Inhabited

/-- The kinds of types whose values are compared. -/
inductive PK where
  | int (k : IntKind) | str | bool
  deriving DecidableEq, Repr, Inhabited
inductive EqT where
  | num | bool | func | ptr
  | agg (ks : List PK)
  deriving DecidableEq, Repr, Inhabited

inductive KT where
  | int | str | bool
  deriving DecidableEq, Repr, Inhabited

inductive AOp where
  | mov (x : Opd)
  | take (x : Opd)
  | pick (c a b : Opd)
  | alloc (cs : List AVal)
  | box (x : Opd)
  | build (zero : List AVal) (parts : List (Nat × Nat × Opd))
  | buildSlice (zero : List AVal) (len : Nat) (parts : List (Nat × Nat × Opd))
  | load (n : Nat) (agg : Bool) (a : Opd)
  | store (n : Nat) (a v : Opd)
  | bin (op : BinOp) (ty : EqT) (x y : Opd)
  | un (op : UnOp) (x : Opd)
  | conv (k : Cv) (x : Opd)
  | fieldAddr (off : Nat) (x : Opd)
  | field (off n : Nat) (agg : Bool) (x : Opd)
  | indexAddr (size : Nat) (x i : Opd)
  | index (x i : Opd)
  | slice (str : Bool) (size : Nat) (x : Opd) (lo hi : Option Opd)
  | makeMap
  | insert (kt : KT) (m k v : Opd)
  | lookup (kt : KT) (zero : AVal) (ok : Bool) (m k : Opd)
  | extract (x : Opd) (i : Nat)
  | nilCheck (x : Opd)
  | makeFunc (f : Nat) (first captured : List Opd)
  | call (f : Opd) (args : List Opd)
  | callp (f : Opd) (args : List Opd)
  | allocB
  | len (str : Bool) (x : Opd)
  | append (size : Nat) (x y : Opd)
  | minmax (max : Bool) (x y : Opd)
  | bad
  deriving Inhabited

structure AOper where
  dst : Option Nat
  op : AOp
  guard : Option (Nat × Bool)
  deriving Inhabited

inductive ACode where
  | skip
  | region (draw : Option (List (Nat × Nat))) (ops : List AOper) (keep : List Nat)
  | seq (a b : ACode)
  | cond (c : Opd) (a b : ACode)
  | block (id : Nat) (a : ACode)
  | loop (a : ACode) (keep : List Nat)
  | exit (id : Nat)
  | ret
  | bad
  deriving Inhabited

inductive ARes where
  | slot (d : Nat)
  | cell (d n : Nat) (agg : Bool)
  deriving Inhabited

/-- live: what the function has made goes on living: it hands back a reference to it. -/
structure AFunc where
  params : Nat
  code : ACode
  results : List ARes
  live : Bool
  deriving Inhabited

inductive AExit where
  | normal | exit (id : Nat) | ret
  deriving DecidableEq, Inhabited

abbrev CallFn := Nat → List AVal → ASt → Option (AVal × ASt)
abbrev LoopFn := ACode → List Nat → Frame → ASt → Option (AExit × Frame × ASt)

def AVal.cells : AVal → List AVal
  | .agg cs => cs
  | v => [v]

/-- n cells from a place on. -/
def cut (cs : List AVal) (off n : Nat) : Option (List AVal) :=
  if off + n ≤ cs.length then some ((cs.drop off).take n) else none

def mk (agg : Bool) (cs : List AVal) : Option AVal :=
  if agg then some (.agg cs) else match cs with
    | [v] => some v
    | _ => none

/-- Cells laid over others from a place on. -/
def splice (cs : List AVal) (off : Nat) (new : List AVal) : List AVal := cs.take off ++ new ++ cs.drop (off + new.length)

def AVal.known : AVal → Bool
  | .undef => false
  | _ => true

def fill (cs : List AVal) : List (Nat × Nat × AVal) → Option (List AVal)
  | [] => some cs
  | (off, size, v) :: r =>
    if v.known = true ∧ v.cells.length = size ∧ off + size ≤ cs.length then fill (splice cs off v.cells) r else none

def zeros (zero : List AVal) : Nat → List AVal
  | 0 => []
  | n + 1 => zero ++ zeros zero n

/-- What is read of a cell of an object: of a slice that owns its spare places: where it lies. -/
def AVal.read (r c : Nat) : AVal → AVal
  | .sl cs n (.mine _) => .sl cs n (.loc r c)
  | v => v.strip

def loadAt (s : ASt) (n : Nat) (agg : Bool) : AVal → Option AVal
  | .ref r off => match s.get r with
    | some (.cells cs) =>
      if agg then (cut cs off n).map fun l => .agg (l.map AVal.strip)
      else (cs[off]?).map (AVal.read r off)
    | _ => none
  | .ipt cs off => (cut cs off n).bind (mk agg)
  | _ => none

/-- What a cell of memory can hold, and is known. -/
def AVal.one : AVal → Bool
  | .undef | .agg _ | .tup _ => false
  | _ => true

/-- A cell may be written over: one that holds, or held, a slice with spare places only by a longer one of that kind. -/
def mayPut (old new : AVal) : Bool :=
  match old with
  | .sl cs _ (.mine _) | .sl cs _ .moved => match new with
    | .sl ds _ (.mine _) => decide (cs.length < ds.length)
    | _ => false
  | _ => true

def mayPutL : List AVal → List AVal → Bool
  | _, [] => true
  | [], _ :: _ => false
  | a :: l, b :: m => mayPut a b && mayPutL l m

def storeAt (s : ASt) (n : Nat) (a v : AVal) : Option ASt :=
  match a with
  | .ref r off => match s.get r with
    | some (.cells cs) =>
      if v.cells.length = n ∧ off + n ≤ cs.length ∧ mayPutL (cs.drop off) v.cells = true ∧ underL (r + 1) v.cells = true ∧ v.cells.all AVal.one = true then
        some (s.set r (.cells (splice cs off v.cells)))
      else none
    | _ => none
  | _ => none

def limit : Nat := 2 ^ 36

def cmpInt (op : BinOp) (x y : Int) : Option Bool :=
  match op with
  | .eql => some (decide (x = y))
  | .neq => some (!decide (x = y))
  | .lss => some (decide (x < y))
  | .leq => some (decide (x ≤ y))
  | .gtr => some (decide (y < x))
  | .geq => some (decide (y ≤ x))
  | _ => none

def bytesLess : List UInt8 → List UInt8 → Bool
  | _, [] => false
  | [], _ :: _ => true
  | a :: x, b :: y => a < b || (a == b && bytesLess x y)

def AVal.isKind : PK → AVal → Bool
  | .int k, .int j _ => k == j
  | .str, .str _ => true
  | .bool, .bool _ => true
  | _, _ => false

def isKinds : List PK → List AVal → Bool
  | [], [] => true
  | k :: ks, a :: l => a.isKind k && isKinds ks l
  | _, _ => false

def eqOp (op : BinOp) (e : Bool) : Option AVal :=
  match op with
  | .eql => some (.bool e)
  | .neq => some (.bool (!e))
  | _ => none

def abin (op : BinOp) (ty : EqT) (x y : AVal) : Option AVal :=
  match ty with
  | .num => match x, y with
    | .int k a, .int j b =>
      if k = j then
        match op with
        | .add => some (.int k (k.wrap (a + b)))
        | .sub => some (.int k (k.wrap (a - b)))
        | .mul => some (.int k (k.wrap (a * b)))
        | .quo => if b = 0 then none else some (.int k (k.wrap (a.tdiv b)))
        | .rem => if b = 0 then none else some (.int k (a.tmod b))
        | op => (cmpInt op a b).map .bool
      else none
    | .str a, .str b =>
      match op with
      | .add => if a.length + b.length ≤ limit then some (.str (a ++ b)) else none
      | .eql => some (.bool (a == b))
      | .neq => some (.bool (!(a == b)))
      | .lss => some (.bool (bytesLess a b))
      | .gtr => some (.bool (!(bytesLess a b || a == b)))
      | .leq => some (.bool (bytesLess a b || a == b))
      | .geq => some (.bool (!bytesLess a b))
      | _ => none
    | _, _ => none
  | .bool => match x, y with
    | .bool a, .bool b => eqOp op (a == b)
    | _, _ => none
  | .func => match x, y with
    | .nilf, .nilf => eqOp op true
    | .fn _ _ _, .nilf => eqOp op false
    | _, _ => none
  | .ptr => match x, y with
    | .nilp, .nilp => eqOp op true
    | .ref _ _, .nilp => eqOp op false
    | _, _ => none
  | .agg ks => match x, y with
    | .agg a, .agg b => if isKinds ks a && isKinds ks b then eqOp op (sameL a b) else none
    | _, _ => none

def aun (op : UnOp) (x : AVal) : Option AVal :=
  match op, x with
  | .neg, .int k n => some (.int k (k.wrap (0 - n)))
  | .not, .bool b => some (.bool (!b))
  | _, _ => none

def byteCells (l : List UInt8) : List AVal := l.map fun b => .int .u8 b.toNat
def bytesOf : List AVal → Option (List UInt8)
  | [] => some []
  | .int .u8 n :: r => (bytesOf r).map (UInt8.ofNat n.toNat :: ·)
  | _ => none

def aconv (k : Cv) (x : AVal) : Option AVal :=
  match k, x with
  | .int k, .int _ n => some (.int k (k.wrap n))
  | .same, .str l => some (.str l)
  | .strBytes, .str l => if l.length ≤ limit then some (.sl (byteCells l) l.length .none) else none
  | .bytesStr, .sl cs n _ => if cs.length = n then (bytesOf cs).map .str else none
  | .bytesStr, .nils => some (.str [])
  | _, _ => none

def natOf : AVal → Option Nat
  | .int _ n => if 0 ≤ n then some n.toNat else none
  | _ => none

def bound (d : Nat) : Option AVal → Option Nat
  | none => some d
  | some v => natOf v

def aslice (str : Bool) (size : Nat) (x : AVal) (lo hi : Option AVal) : Option AVal :=
  match str, x with
  | true, .str l => do
    let h ← bound l.length hi
    let o ← bound 0 lo
    if o ≤ h ∧ h ≤ l.length then some (.str ((l.take h).drop o)) else none
  | false, .sl cs n own => do
    let h ← bound n hi
    let o ← bound 0 lo
    if o ≤ h ∧ h ≤ n then some (.sl ((cs.take (h * size)).drop (o * size)) (h - o) (if h = n ∧ own = .exact then .exact else .none)) else none
  | false, .nils => do
    let h ← bound 0 hi
    let o ← bound 0 lo
    if o = 0 ∧ h = 0 then some .nils else none
  | _, _ => none

/-- Whether two keys are equal, of the kinds that are served. -/
def keq : KT → AVal → AVal → Option Bool
  | .int, .int k a, .int j b => if k = j then some (decide (a = b)) else none
  | .str, .str a, .str b => some (a == b)
  | .bool, .bool a, .bool b => some (a == b)
  | _, _, _ => none

def find (kt : KT) (k : AVal) : List AVal → List AVal → Option (Option AVal)
  | [], [] => some none
  | x :: ks, v :: vs => match keq kt k x with
    | some true => some (some v)
    | some false => find kt k ks vs
    | none => none
  | _, _ => none

def insertAt (kt : KT) (k v : AVal) : List AVal → List AVal → Option (List AVal × List AVal)
  | [], [] => some ([k], [v])
  | x :: ks, y :: vs => match keq kt k x with
    | some true => some (k :: ks, v :: vs)
    | some false => (insertAt kt k v ks vs).map fun (a, b) => (x :: a, y :: b)
    | none => none
  | _, _ => none

def entries (s : ASt) : AVal → Option (List AVal × List AVal)
  | .nilm => some ([], [])
  | .imap ks vs => some (ks, vs)
  | .map r => match s.get r with
    | some (.map ks vs) => some (ks, vs)
    | _ => none
  | _ => none

def newCells : AVal → Option (List AVal × Nat)
  | .nils => some ([], 0)
  | .sl cs n _ => some (cs, n)
  | .str l => some (byteCells l, l.length)
  | _ => none

/-- The slice to which is appended: its cells, its length, and the state in which it no longer owns what is behind it. -/
def base (size : Nat) (A : Frame) (s : ASt) : Opd → Option (List AVal × Nat × Frame × ASt)
  | .val .nils => some ([], 0, A, s)
  | .val _ | .fn _ => none
  | .tmp d => match A.get d with
    | .nils => some ([], 0, A, s)
    | .sl cs n .exact => some (cs, n, A, s)
    | .sl cs n (.mine z) => if z = size then some (cs, n, A.put d (.sl cs n .none), s) else none
    | .sl cs n (.loc r c) => match s.get r with
      | some (.cells os) => match os[c]? with
        | some (.sl ds m (.mine z)) => if ds.length = cs.length ∧ z = size then some (cs, n, A, s.set r (.cells (os.set c (.sl ds m .moved)))) else none
        | _ => none
      | _ => none
    | _ => none

def aappend (size : Nat) (A : Frame) (s : ASt) (x y : Opd) : Option (AVal × Frame × ASt) := do
  let (new, k) ← newCells (y.ev A)
  if k = 0 then
    let (v, A) := x.taken A
    match v with
    | .sl _ _ _ | .nils => some (v, A, s)
    | _ => none
  else
    let (cs, n, A, s) ← base size A s x
    if n + k ≤ limit ∧ cs.length = n * size ∧ new.length = k * size ∧ new.all AVal.one = true then some (.sl (cs ++ new) (n + k) (.mine size), A, s) else none

def aop (call : CallFn) (o : AOp) (A : Frame) (s : ASt) : Option (AVal × Frame × ASt) :=
  let pure (v : AVal) : Option (AVal × Frame × ASt) := some (v, A, s)
  match o with
  | .mov x => pure (x.ev A)
  | .take x => let (v, A) := x.taken A; some (v, A, s)
  | .pick c a b => match c.ev A with
    | .bool true => pure (a.ev A)
    | .bool false => pure (b.ev A)
    | _ => none
  | .alloc cs => some (.ref s.n 0, A, s.push (.cells cs))
  | .box x => if (x.ev A).known then some (.ref s.n 0, A, s.push (.cells (x.ev A).cells)) else none
  | .build zero parts => do pure (.agg (← fill zero (parts.map fun (i, n, x) => (i, n, x.ev A))))
  | .buildSlice zero len parts => do pure (.sl (← fill (zeros zero len) (parts.map fun (i, n, x) => (i, n, x.ev A))) len .exact)
  | .load n agg a => do pure (← loadAt s n agg (a.ev A))
  | .store n a v => do
    let (x, A') := v.taken A
    let s' ← storeAt s n (a.ev A) x
    some (.undef, A', s')
  | .bin op ty x y => do pure (← abin op ty (x.ev A) (y.ev A))
  | .un op x => do pure (← aun op (x.ev A))
  | .conv k x => do pure (← aconv k (x.ev A))
  | .fieldAddr off x => match x.ev A with
    | .ref r o => pure (.ref r (o + off))
    | .ipt cs o => pure (.ipt cs (o + off))
    | _ => none
  | .field off n agg x => match x.ev A with
    | .agg cs => do pure (← mk agg (← cut cs off n))
    | _ => none
  | .indexAddr size x i => match x.ev A, i.ev A with
    | .sl cs n _, .int _ i => if 0 ≤ i ∧ i < n then pure (.ipt cs (i.toNat * size)) else none
    | _, _ => none
  | .index x i => match x.ev A, i.ev A with
    | .str l, .int _ i => if 0 ≤ i then (l[i.toNat]?).bind fun b => pure (.int .u8 b.toNat) else none
    | _, _ => none
  | .slice str size x lo hi => do pure (← aslice str size (x.ev A) (lo.map (·.ev A)) (hi.map (·.ev A)))
  | .makeMap => some (.map s.n, A, s.push (.map [] []))
  | .insert kt m k v => match m.ev A with
    | .map r => match s.get r with
      | some (.map ks vs) => do
        let (ks, vs) ← insertAt kt (k.ev A) (v.ev A) ks vs
        if (k.ev A).under (r + 1) && (v.ev A).under (r + 1) then some (.undef, A, s.set r (.map ks vs)) else none
      | _ => none
    | _ => none
  | .lookup kt zero ok m k => do
    let (ks, vs) ← entries s (m.ev A)
    let r ← find kt (k.ev A) ks vs
    let v := r.getD zero
    pure (if ok then .tup [v, .bool r.isSome] else v)
  | .extract x i => match x.ev A with
    | .tup vs => do pure (← vs[i]?)
    | _ => none
  | .nilCheck x => match x.ev A with
    | .ref r o => pure (.ref r o)
    | .ipt cs o => pure (.ipt cs o)
    | .fn f a b => pure (.fn f a b)
    | _ => none
  | .makeFunc f first captured => pure (.fn f (first.map (·.ev A)) (captured.map (·.ev A)))
  | .call f args => match f.ev A with
    | .fn i first captured => (call i (first ++ args.map (·.ev A) ++ captured) s).map fun (v, s) => (v, A, s)
    | _ => none
  | .callp f args => match f.ev A with
    | .fn i first captured =>
      if underL 0 (first ++ args.map (·.ev A) ++ captured) then (call i (first ++ args.map (·.ev A) ++ captured) ⟨0, []⟩).bind fun (v, s') => if s'.n = 0 then some (v, A, s) else none
      else none
    | _ => none
  | .allocB => some (.ref s.n 0, A, s.push (.bld []))
  | .len str x => match str, x.ev A with
    | true, .str l => pure (.int .i64 l.length)
    | false, .sl _ n _ => pure (.int .i64 n)
    | false, .nils => pure (.int .i64 0)
    | _, _ => none
  | .append size x y => aappend size A s x y
  | .minmax max x y => match x.ev A, y.ev A with
    | .int k a, .int j b => if k = j then pure (.int k (if max then (if b > a then b else a) else (if b < a then b else a))) else none
    | _, _ => none
  | .bad => none

def wanted (A : Frame) : Option (Nat × Bool) → Option Bool
  | none => some true
  | some (d, want) => match A.get d with
    | .bool b => some (b == want)
    | .tup _ => some false
    | _ => none

def exOps (call : CallFn) : List AOper → Frame → ASt → Option (Frame × ASt)
  | [], A, s => some (A, s)
  | o :: r, A, s => match wanted A o.guard with
    | some true => (aop call o.op A s).bind fun (v, A, s) => exOps call r (A.putO o.dst v) s
    | some false => exOps call r (A.putO o.dst (.tup [])) s
    | none => none

/-- Of values that outlive objects: those objects' contents in their places. 'keep': at the top a slice may keep what it owns. -/
def fz (n : Nat) (s : ASt) : Nat → AVal → Option AVal
  | 0, _ => none
  | k + 1, v =>
    if v.under n then some v else
    match v with
    | .ref r off => match s.get r with
      | some (.cells cs) => (cs.mapM (fun c => fz n s k c.strip)).map fun l => .ipt l off
      | _ => none
    | .map r => match s.get r with
      | some (.map ks vs) => do some (.imap (← ks.mapM (fz n s k)) (← vs.mapM (fz n s k)))
      | _ => none
    | .ipt cs off => (cs.mapM (fz n s k)).map fun l => .ipt l off
    | .sl cs len o => (cs.mapM (fz n s k)).map fun l => match o with
      | .loc _ _ => .sl l len .none
      | o => .sl l len o
    | .imap ks vs => do some (.imap (← ks.mapM (fz n s k)) (← vs.mapM (fz n s k)))
    | .fn f a b => do some (.fn f (← a.mapM (fz n s k)) (← b.mapM (fz n s k)))
    | .agg cs => (cs.mapM (fz n s k)).map .agg
    | .tup vs => (vs.mapM (fz n s k)).map .tup
    | v => some v

def depth : Nat := 64

def keepF (n : Nat) (s : ASt) (A : Frame) : List Nat → Option Frame
  | [] => some []
  | d :: ds => do
    let v ← fz n s depth (A.get d)
    let B ← keepF n s A ds
    some ((d, v) :: B)

def Frame.keep (A : Frame) (ds : List Nat) : Frame := ds.map fun d => (d, A.get d)

/-! Regions whose order is open: what the instructions make in the order of the text, and that no state that they may meet makes a difference to what they read. -/

def exTrace (call : CallFn) : List AOper → Frame → ASt → Option (List (Frame × ASt))
  | [], A, s => some [(A, s)]
  | o :: r, A, s => match wanted A o.guard with
    | some true => (aop call o.op A s).bind fun (v, A', s') => (exTrace call r (A'.putO o.dst v) s').map fun l => (A, s) :: l
    | some false => (exTrace call r (A.putO o.dst (.tup [])) s).map fun l => (A, s) :: l
    | none => none

def sameO : Option AVal → Option AVal → Bool
  | some a, some b => a.same b
  | none, none => true
  | _, _ => false

def sameE : Option (List AVal × List AVal) → Option (List AVal × List AVal) → Bool
  | some (a, b), some (c, d) => sameL a c && sameL b d
  | none, none => true
  | _, _ => false

def readsSame (o : AOp) (A : Frame) (s t : ASt) : Bool :=
  match o with
  | .load n agg a => sameO (loadAt s n agg (a.ev A)) (loadAt t n agg (a.ev A))
  | .lookup _ _ _ m _ => sameE (entries s (m.ev A)) (entries t (m.ev A))
  | _ => true

/-- The state instruction j and the reading instruction l. -/
def pairOk (ops : List AOper) (tr : List (Frame × ASt)) (x : Nat × Nat) : Bool :=
  match tr[x.1]?, tr[x.1 + 1]?, tr[x.2]?, ops[x.2]? with
  | some (_, s), some (_, t), some (A, _), some o => wanted A o.guard == some false || readsSame o.op A s t
  | _, _, _, _ => false

def exDraw (call : CallFn) (pairs : List (Nat × Nat)) (ops : List AOper) (A : Frame) (s : ASt) : Option (Frame × ASt) :=
  (exTrace call ops A s).bind fun tr => if pairs.all (pairOk ops tr) then tr.getLast? else none

def exec (call : CallFn) (loop : LoopFn) : ACode → Frame → ASt → Option (AExit × Frame × ASt)
  | .skip, A, s => some (.normal, A, s)
  | .region none ops keep, A, s => (exOps call ops A s).map fun (A, s) => (.normal, A.keep keep, s)
  | .region (some pairs) ops keep, A, s => (exDraw call pairs ops A s).map fun (A, s) => (.normal, A.keep keep, s)
  | .seq a b, A, s => (exec call loop a A s).bind fun (e, A, s) => match e with
    | .normal => exec call loop b A s
    | e => some (e, A, s)
  | .cond c a b, A, s => match c.ev A with
    | .bool t => if t then exec call loop a A s else exec call loop b A s
    | _ => none
  | .block id a, A, s => (exec call loop a A s).map fun (e, A, s) => (if e = .exit id then .normal else e, A, s)
  | .loop a keep, A, s => loop a keep A s
  | .exit id, A, s => some (.exit id, A, s)
  | .ret, A, s => some (.ret, A, s)
  | .bad, _, _ => none

def result (A : Frame) (s : ASt) : ARes → Option AVal
  | .slot d => some (A.get d)
  | .cell d n agg => loadAt s n agg (A.get d).strip

def results (A : Frame) (s : ASt) : List ARes → Option AVal
  | [r] => (result A s r).map fun v => match v with
    | .sl cs n (.loc _ _) => .sl cs n .none
    | v => v
  | rs => (rs.mapM (result A s)).map fun l => .tup (l.map AVal.strip)

def params : Nat → List AVal → Frame
  | _, [] => []
  | d, v :: r => (d, v) :: params (d + 1) r

structure Cfg where
  funcs : Nat → Option AFunc
  ext : Nat → Option (List AVal → ASt → Option (AVal × ASt))

def runBody (call : CallFn) (loop : LoopFn) (f : AFunc) (args : List AVal) (s : ASt) : Option (AVal × ASt) :=
  if args.length = f.params then
    (exec call loop f.code (params 0 args) s).bind fun (e, A, s') =>
      match e with
      | .normal | .ret => do
        let v ← results A s' f.results
        if f.live ∨ s'.n = s.n then some (v, s') else do
        let v ← fz s.n s' depth v
        some (v, s'.trunc s.n)
      | _ => none
  else none

def stepCall (C : Cfg) (call : CallFn) (loop : LoopFn) : CallFn := fun f args s =>
  match C.ext f with
  | some g => g args s
  | none => match C.funcs f with
    | some fn => runBody call loop fn args s
    | none => none

def stepLoop (call : CallFn) (loop : LoopFn) : LoopFn := fun b keep A s =>
  (exec call loop b (A.keep keep) s).bind fun (e, A', s') => match e with
    | .normal => if s'.n = s.n then loop b keep A' s' else do
      let B ← keepF s.n s' A' keep
      loop b keep B (s'.trunc s.n)
    | e => some (e, A', s')

/-- With so much fuel. -/
def upto (C : Cfg) : Nat → CallFn × LoopFn
  | 0 => (fun _ _ _ => none, fun _ _ _ _ => none)
  | k + 1 => (stepCall C (upto C k).1 (upto C k).2, stepLoop (upto C k).1 (upto C k).2)

end Go.Proofs.YtdhgdpokdhjanaaGreat.Abs
