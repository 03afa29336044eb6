/- The same machine in a form that the kernel runs faster. -/
import Derived.Test.YtdhgdpokdhjanaaGreatMA1
set_option linter.unusedSimpArgs false
set_option linter.unusedVariables false
namespace Go.Proofs.YtdhgdpokdhjanaaGreat.Abs
open Go

def getF : Frame → Nat → AVal
  | [], _ => .undef
  | p :: A, d => match Nat.beq p.1 d with
    | true => p.2
    | false => getF A d

theorem getF_eq : ∀ (A : Frame) (d : Nat), getF A d = A.get d
  | [], _ => rfl
  | (k, v) :: A, d => by
    simp only [getF, Frame.get]
    cases h : Nat.beq k d with
    | true => rw [if_pos (Nat.eq_of_beq_eq_true h)]
    | false =>
      rw [if_neg (Nat.ne_of_beq_eq_false h)]
      exact getF_eq A d

def getLF : List AObj → Nat → Nat → Option AObj
  | [], _, _ => none
  | o :: os, n, r => match n with
    | 0 => none
    | n + 1 => match Nat.beq r n with
      | true => some o
      | false => getLF os n r
theorem getLF_eq : ∀ (os : List AObj) (n r : Nat), getLF os n r = getL os n r
  | [], n, r => by cases n <;> rfl
  | o :: os, 0, r => rfl
  | o :: os, n + 1, r => by
    simp only [getLF, getL]
    cases h : Nat.beq r n with
    | true => rw [if_pos (Nat.eq_of_beq_eq_true h)]
    | false =>
      rw [if_neg (Nat.ne_of_beq_eq_false h)]
      exact getLF_eq os n r

def setLF : List AObj → Nat → Nat → AObj → List AObj
  | [], _, _, _ => []
  | o :: os, n, r, x => match n with
    | 0 => o :: os
    | n + 1 => match Nat.beq r n with
      | true => x :: os
      | false => o :: setLF os n r x
theorem setLF_eq : ∀ (os : List AObj) (n r : Nat) (x : AObj), setLF os n r x = setL os n r x
  | [], n, r, x => by cases n <;> rfl
  | o :: os, 0, r, x => rfl
  | o :: os, n + 1, r, x => by
    simp only [setLF, setL]
    cases h : Nat.beq r n with
    | true => rw [if_pos (Nat.eq_of_beq_eq_true h)]
    | false =>
      rw [if_neg (Nat.ne_of_beq_eq_false h)]
      simp only [setLF_eq os n r x]

def eqB : List UInt8 → List UInt8 → Bool
  | [], [] => true
  | a :: l, b :: m => match Nat.beq a.toNat b.toNat with
    | true => eqB l m
    | false => false
  | _, _ => false
theorem eqB_eq : ∀ (l m : List UInt8), eqB l m = (l == m)
  | [], [] => rfl
  | [], _ :: _ => rfl
  | _ :: _, [] => rfl
  | a :: l, b :: m => by
    simp only [eqB]
    cases h : Nat.beq a.toNat b.toNat with
    | true =>
      have : a = b := UInt8.toNat_inj.1 (Nat.eq_of_beq_eq_true h)
      subst this
      simp only [eqB_eq l m]
      simp
    | false =>
      have h1 : a ≠ b := fun e => Nat.ne_of_beq_eq_false h (by rw [e])
      have : ¬ (a :: l = b :: m) := fun e => h1 (by cases e; rfl)
      simp [h1]

def evF (A : Frame) : Opd → AVal
  | .tmp d => (getF A d).strip
  | .val a => a
  | .fn i => .fn i [] []
theorem evF_eq (A : Frame) (x : Opd) : evF A x = x.ev A := by cases x <;> simp [evF, Opd.ev, getF_eq]

def ret1 (A : Frame) (s : ASt) : Option AVal → Option (AVal × Frame × ASt)
  | some v => some (v, A, s)
  | none => none

def oPick (A : Frame) (s : ASt) (c a b : Opd) : Option (AVal × Frame × ASt) := match evF A c with
  | .bool t => match t with
    | true => some (evF A a, A, s)
    | false => some (evF A b, A, s)
  | _ => none
def oBox (A : Frame) (s : ASt) (v : AVal) : Option (AVal × Frame × ASt) := match v.known with
  | true => some (.ref s.n 0, A, s.push (.cells v.cells))
  | false => none
def stGet (s : ASt) (r : Nat) : Option AObj := getLF s.os s.n r
theorem stGet_eq (s : ASt) (r : Nat) : stGet s r = s.get r := getLF_eq _ _ _

def loadF (s : ASt) (n : Nat) (agg : Bool) : AVal → Option AVal
  | .ref r off => match stGet s r with
    | some (.cells cs) => match agg with
      | true => (cut cs off n).map fun l => .agg (l.map AVal.strip)
      | false => (cs[off]?).map (AVal.read r off)
    | _ => none
  | .ipt cs off => match agg with
    | true => (cut cs off n).map .agg
    | false => (cut cs off n).bind fun l => match l with
      | [v] => some v
      | _ => none
  | _ => none
theorem loadF_eq (s : ASt) (n : Nat) (agg : Bool) (x : AVal) : loadF s n agg x = loadAt s n agg x := by
  cases x <;> simp only [loadF, loadAt, stGet_eq]
  · cases s.get _ with
    | none => rfl
    | some o => cases o <;> cases agg <;> rfl
  · rename_i cs off
    cases agg
    · cases cut cs off n with
      | none => rfl
      | some l => rfl
    · cases cut cs off n with
      | none => rfl
      | some l => rfl

def binF (op : BinOp) (ty : EqT) (x y : AVal) : Option AVal :=
  match ty with
  | .num => match x, y with
    | .str a, .str b =>
      match op with
      | .eql => some (.bool (eqB a b))
      | .neq => some (.bool (!(eqB a b)))
      | _ => abin op ty x y
    | _, _ => abin op ty x y
  | _ => abin op ty x y
theorem binF_eq (op : BinOp) (ty : EqT) (x y : AVal) : binF op ty x y = abin op ty x y := by
  unfold binF
  cases ty <;> try rfl
  cases x <;> try rfl
  cases y <;> try rfl
  cases op <;> simp only [eqB_eq] <;> rfl

def keqF : KT → AVal → AVal → Option Bool
  | .str, .str a, .str b => some (eqB a b)
  | kt, a, b => keq kt a b
theorem keqF_eq (kt : KT) (a b : AVal) : keqF kt a b = keq kt a b := by
  cases kt <;> try rfl
  cases a <;> try rfl
  cases b <;> try rfl
  simp only [keqF, keq, eqB_eq]

def findF (kt : KT) (k : AVal) : List AVal → List AVal → Option (Option AVal)
  | [], vs => match vs with
    | [] => some none
    | _ => none
  | x :: ks, vs => match vs with
    | [] => none
    | v :: vs => match keqF kt k x with
      | some b => match b with
        | true => some (some v)
        | false => findF kt k ks vs
      | none => none
theorem findF_eq (kt : KT) (k : AVal) : ∀ (ks vs : List AVal), findF kt k ks vs = find kt k ks vs
  | [], [] => rfl
  | [], _ :: _ => rfl
  | _ :: _, [] => rfl
  | x :: ks, v :: vs => by
    simp only [findF, find, keqF_eq, findF_eq kt k ks vs]
    cases keq kt k x with
    | none => rfl
    | some b => cases b <;> rfl

def insertF (kt : KT) (k v : AVal) : List AVal → List AVal → Option (List AVal × List AVal)
  | [], vs => match vs with
    | [] => some ([k], [v])
    | _ => none
  | x :: ks, vs => match vs with
    | [] => none
    | y :: vs => match keqF kt k x with
      | some b => match b with
        | true => some (k :: ks, v :: vs)
        | false => match insertF kt k v ks vs with
          | some (a, b) => some (x :: a, y :: b)
          | none => none
      | none => none
theorem insertF_eq (kt : KT) (k v : AVal) : ∀ (ks vs : List AVal), insertF kt k v ks vs = insertAt kt k v ks vs
  | [], [] => rfl
  | [], _ :: _ => rfl
  | _ :: _, [] => rfl
  | x :: ks, y :: vs => by
    simp only [insertF, insertAt, keqF_eq, insertF_eq kt k v ks vs]
    cases keq kt k x with
    | none => rfl
    | some b =>
      cases b with
      | true => rfl
      | false => cases insertAt kt k v ks vs <;> rfl

def takenF (A : Frame) (s : ASt) : Opd → Option (AVal × Frame × ASt)
  | .tmp d => match getF A d with
    | .sl cs n o => match o with
      | .mine z => some (.sl cs n (.mine z), A.put d (.sl cs n .none), s)
      | o => some ((AVal.sl cs n o).strip, A, s)
    | x => some (x.strip, A, s)
  | .val a => some (a, A, s)
  | .fn i => some (.fn i [] [], A, s)
def oFieldAddr (A : Frame) (s : ASt) (off : Nat) : AVal → Option (AVal × Frame × ASt)
  | .ref r o => some (.ref r (o + off), A, s)
  | .ipt cs o => some (.ipt cs (o + off), A, s)
  | _ => none
def oField (A : Frame) (s : ASt) (off n : Nat) (agg : Bool) : AVal → Option (AVal × Frame × ASt)
  | .agg cs => match cut cs off n with
    | some l => ret1 A s (mk agg l)
    | none => none
  | _ => none
def oIndexAddr (A : Frame) (s : ASt) (size : Nat) (x : AVal) (i : AVal) : Option (AVal × Frame × ASt) := match x with
  | .sl cs n _ => match i with
    | .int _ i => if 0 ≤ i ∧ i < n then some (.ipt cs (i.toNat * size), A, s) else none
    | _ => none
  | _ => none
def oIndex (A : Frame) (s : ASt) (x : AVal) (i : AVal) : Option (AVal × Frame × ASt) := match x with
  | .str l => match i with
    | .int _ i => if 0 ≤ i then match l[i.toNat]? with
      | some b => some (.int .u8 b.toNat, A, s)
      | none => none
      else none
    | _ => none
  | _ => none
def oInsert (A : Frame) (s : ASt) (kt : KT) (m k v : AVal) : Option (AVal × Frame × ASt) := match m with
  | .map r => match stGet s r with
    | some (.map ks vs) => match insertF kt k v ks vs with
      | some (a, b) => if k.under (r + 1) && v.under (r + 1) then some (.undef, A, ⟨s.n, setLF s.os s.n r (.map a b)⟩) else none
      | none => none
    | _ => none
  | _ => none
def entriesF (s : ASt) : AVal → Option (List AVal × List AVal)
  | .nilm => some ([], [])
  | .imap ks vs => some (ks, vs)
  | .map r => match stGet s r with
    | some (.map ks vs) => some (ks, vs)
    | _ => none
  | _ => none
theorem entriesF_eq (s : ASt) (x : AVal) : entriesF s x = entries s x := by
  cases x <;> simp only [entriesF, entries, stGet_eq]
  cases s.get _ with
  | none => rfl
  | some o => cases o <;> rfl
def oLookup (A : Frame) (s : ASt) (kt : KT) (zero : AVal) (ok : Bool) (m k : AVal) : Option (AVal × Frame × ASt) := match entriesF s m with
  | some (ks, vs) => match findF kt k ks vs with
    | some r => some ((if ok then .tup [r.getD zero, .bool r.isSome] else r.getD zero), A, s)
    | none => none
  | none => none
def oExtract (A : Frame) (s : ASt) (i : Nat) : AVal → Option (AVal × Frame × ASt)
  | .tup vs => ret1 A s vs[i]?
  | _ => none
def oNilCheck (A : Frame) (s : ASt) : AVal → Option (AVal × Frame × ASt)
  | .ref r o => some (.ref r o, A, s)
  | .ipt cs o => some (.ipt cs o, A, s)
  | .fn f a b => some (.fn f a b, A, s)
  | _ => none
def evs (A : Frame) : List Opd → List AVal
  | [] => []
  | x :: l => evF A x :: evs A l
theorem evs_eq (A : Frame) : ∀ l : List Opd, evs A l = l.map (·.ev A)
  | [] => rfl
  | x :: l => by simp only [evs, evF_eq, evs_eq A l, List.map_cons]
def oCall (call : CallFn) (A : Frame) (s : ASt) (args : List Opd) : AVal → Option (AVal × Frame × ASt)
  | .fn i first captured => match call i (first ++ evs A args ++ captured) s with
    | some (v, s') => some (v, A, s')
    | none => none
  | _ => none
def oCallp (call : CallFn) (A : Frame) (s : ASt) (args : List Opd) : AVal → Option (AVal × Frame × ASt)
  | .fn i first captured => match underL 0 (first ++ evs A args ++ captured) with
    | true => match call i (first ++ evs A args ++ captured) ⟨0, []⟩ with
      | some (v, s') => match s'.n with
        | 0 => some (v, A, s)
        | _ => none
      | none => none
    | false => none
  | _ => none
def oLen (A : Frame) (s : ASt) (str : Bool) (x : AVal) : Option (AVal × Frame × ASt) := match str with
  | true => match x with
    | .str l => some (.int .i64 l.length, A, s)
    | _ => none
  | false => match x with
    | .sl _ n _ => some (.int .i64 n, A, s)
    | .nils => some (.int .i64 0, A, s)
    | _ => none

def aopF (call : CallFn) (o : AOp) (A : Frame) (s : ASt) : Option (AVal × Frame × ASt) :=
  match o with
  | .mov x => some (evF A x, A, s)
  | .take x => takenF A s x
  | .pick c a b => oPick A s c a b
  | .box x => oBox A s (evF A x)
  | .load n agg a => ret1 A s (loadF s n agg (evF A a))
  | .bin op ty x y => ret1 A s (binF op ty (evF A x) (evF A y))
  | .un op x => ret1 A s (aun op (evF A x))
  | .fieldAddr off x => oFieldAddr A s off (evF A x)
  | .field off n agg x => oField A s off n agg (evF A x)
  | .indexAddr size x i => oIndexAddr A s size (evF A x) (evF A i)
  | .index x i => oIndex A s (evF A x) (evF A i)
  | .insert kt m k v => oInsert A s kt (evF A m) (evF A k) (evF A v)
  | .lookup kt zero ok m k => oLookup A s kt zero ok (evF A m) (evF A k)
  | .extract x i => oExtract A s i (evF A x)
  | .nilCheck x => oNilCheck A s (evF A x)
  | .call f args => oCall call A s args (evF A f)
  | .callp f args => oCallp call A s args (evF A f)
  | .len str x => oLen A s str (evF A x)
  | o => aop call o A s

theorem ret1_eq (A : Frame) (s : ASt) (x : Option AVal) : ret1 A s x = (do let v ← x; some (v, A, s)) := by cases x <;> rfl

theorem aopF_eq (call : CallFn) (o : AOp) (A : Frame) (s : ASt) : aopF call o A s = aop call o A s := by
  cases o <;> simp only [aopF]
  case mov x => simp only [aop, evF_eq]
  case take x =>
    simp only [aop]
    cases x with
    | tmp d =>
      simp only [takenF, Opd.taken, getF_eq]
      cases A.get d with
      | sl cs n o => cases o <;> rfl
      | _ => rfl
    | _ => rfl
  case pick c a b =>
    simp only [aop, oPick, evF_eq]
    cases c.ev A <;> try rfl
    rename_i t
    cases t <;> rfl
  case box x =>
    simp only [aop, oBox, evF_eq]
    cases (x.ev A).known <;> rfl
  case load n agg a => simp only [aop, ret1_eq, loadF_eq, evF_eq]
  case bin op ty x y => simp only [aop, ret1_eq, binF_eq, evF_eq]
  case un op x => simp only [aop, ret1_eq, evF_eq]
  case fieldAddr off x =>
    simp only [aop, evF_eq]
    cases x.ev A <;> rfl
  case field off n agg x =>
    simp only [aop, evF_eq]
    cases x.ev A <;> try rfl
    rename_i cs
    simp only [oField]
    cases cut cs off n with
    | none => rfl
    | some l => simp only [ret1_eq]; rfl
  case indexAddr size x i =>
    simp only [aop, evF_eq, oIndexAddr]
    cases x.ev A <;> cases i.ev A <;> rfl
  case index x i =>
    simp only [aop, evF_eq, oIndex]
    cases x.ev A <;> cases i.ev A <;> try rfl
    rename_i l k n
    simp only
    split
    · cases l[n.toNat]? <;> rfl
    · rfl
  case insert kt m k v =>
    simp only [aop, evF_eq, oInsert, stGet_eq, insertF_eq]
    cases m.ev A <;> try rfl
    rename_i r
    simp only
    cases s.get r with
    | none => rfl
    | some o =>
      cases o <;> try rfl
      rename_i ks vs
      simp only
      cases insertAt kt (k.ev A) (v.ev A) ks vs with
      | none => rfl
      | some p => simp only [ASt.set, setLF_eq]; rfl
  case lookup kt zero ok m k =>
    simp only [aop, evF_eq, oLookup, entriesF_eq]
    cases entries s (m.ev A) with
    | none => rfl
    | some p =>
      obtain ⟨ks, vs⟩ := p
      simp only [findF_eq, Option.bind_eq_bind, Option.bind_some]
      cases find kt (k.ev A) ks vs <;> rfl
  case extract x i =>
    simp only [aop, evF_eq]
    cases x.ev A <;> try rfl
    simp only [oExtract, ret1_eq]
  case nilCheck x =>
    simp only [aop, evF_eq]
    cases x.ev A <;> rfl
  case call f args =>
    simp only [aop, evF_eq]
    cases f.ev A <;> try rfl
    simp only [oCall, evs_eq]
    cases call _ _ s <;> rfl
  case callp f args =>
    simp only [aop, evF_eq]
    cases f.ev A <;> try rfl
    rename_i i a b
    simp only [oCallp, evs_eq]
    cases underL 0 (a ++ List.map (fun x => Opd.ev A x) args ++ b) with
    | false => rfl
    | true =>
      simp only [if_true]
      cases call i _ ⟨0, []⟩ with
      | none => rfl
      | some p =>
        obtain ⟨v, s'⟩ := p
        simp only [Option.bind_some]
        cases s'.n <;> rfl
  case len str x =>
    simp only [aop, evF_eq, oLen]
    cases str <;> cases x.ev A <;> rfl

def wantedF (A : Frame) : Option (Nat × Bool) → Option Bool
  | none => some true
  | some p => match getF A p.1 with
    | .bool b => some (b == p.2)
    | .tup _ => some false
    | _ => none
theorem wantedF_eq (A : Frame) (g : Option (Nat × Bool)) : wantedF A g = wanted A g := by
  cases g with
  | none => rfl
  | some p =>
    obtain ⟨d, w⟩ := p
    simp only [wantedF, wanted, getF_eq]
    cases A.get d <;> rfl

def exOpsF (call : CallFn) : List AOper → Frame → ASt → Option (Frame × ASt)
  | [], A, s => some (A, s)
  | o :: r, A, s => match wantedF A o.guard with
    | some b => match b with
      | true => match aopF call o.op A s with
        | some p => exOpsF call r (p.2.1.putO o.dst p.1) p.2.2
        | none => none
      | false => exOpsF call r (A.putO o.dst (.tup [])) s
    | none => none
theorem exOpsF_eq (call : CallFn) : ∀ (ops : List AOper) (A : Frame) (s : ASt), exOpsF call ops A s = exOps call ops A s
  | [], _, _ => rfl
  | o :: r, A, s => by
    simp only [exOpsF, exOps, wantedF_eq, aopF_eq]
    cases wanted A o.guard with
    | none => rfl
    | some b =>
      cases b with
      | false => exact exOpsF_eq call r _ _
      | true =>
        simp only
        cases aop call o.op A s with
        | none => rfl
        | some p => exact exOpsF_eq call r _ _

theorem exTrace_last (call : CallFn) : ∀ (ops : List AOper) (A : Frame) (s : ASt), (exTrace call ops A s).bind List.getLast? = exOps call ops A s ∧ ∀ l, exTrace call ops A s = some l → l ≠ []
  | [], A, s => ⟨rfl, fun l h => by cases h; simp⟩
  | o :: r, A, s => by
    simp only [exTrace, exOps]
    cases wanted A o.guard with
    | none => exact ⟨rfl, fun l h => by cases h⟩
    | some b =>
      have key : ∀ A' s', ((exTrace call r A' s').map fun l => (A, s) :: l).bind List.getLast? = exOps call r A' s' := by
        intro A' s'
        obtain ⟨h1, h2⟩ := exTrace_last call r A' s'
        rw [← h1]
        cases h : exTrace call r A' s' with
        | none => rfl
        | some l =>
          have := h2 l h
          simp only [Option.map_some, Option.bind_some]
          exact List.getLast?_cons_of_ne_nil this
      cases b with
      | false => exact ⟨key _ _, fun l h => by obtain ⟨x, _, rfl⟩ := map_some' h; simp⟩
      | true =>
        simp only
        cases aop call o.op A s with
        | none => exact ⟨rfl, fun l h => by cases h⟩
        | some p => exact ⟨key _ _, fun l h => by obtain ⟨x, _, rfl⟩ := map_some' (h : Option.map _ _ = _); simp⟩

theorem exDraw_nil (call : CallFn) (ops : List AOper) (A : Frame) (s : ASt) : exDraw call [] ops A s = exOps call ops A s := by
  rw [← (exTrace_last call ops A s).1]
  simp [exDraw]

def keptF (A : Frame) : List Nat → Frame
  | [] => []
  | d :: ds => (d, getF A d) :: keptF A ds
theorem keptF_eq (A : Frame) : ∀ ds : List Nat, keptF A ds = A.keep ds
  | [] => rfl
  | d :: ds => by simp only [keptF, getF_eq, keptF_eq A ds]; rfl

def regF (keep : List Nat) : Option (Frame × ASt) → Option (AExit × Frame × ASt)
  | some p => some (.normal, keptF p.1 keep, p.2)
  | none => none
def execF (call : CallFn) (loop : LoopFn) : ACode → Frame → ASt → Option (AExit × Frame × ASt)
  | .skip, A, s => some (.normal, A, s)
  | .region d ops keep, A, s => match d with
    | none => regF keep (exOpsF call ops A s)
    | some pairs => match pairs with
      | [] => regF keep (exOpsF call ops A s)
      | x :: l => regF keep (exDraw call (x :: l) ops A s)
  | .seq a b, A, s => match execF call loop a A s with
    | some p => match p.1 with
      | .normal => execF call loop b p.2.1 p.2.2
      | e => some (e, p.2)
    | none => none
  | .cond c a b, A, s => match evF A c with
    | .bool t => match t with
      | true => execF call loop a A s
      | false => execF call loop b A s
    | _ => none
  | .block id a, A, s => match execF call loop a A s with
    | some p => some (if p.1 = .exit id then .normal else p.1, p.2)
    | none => none
  | .loop a keep, A, s => loop a keep A s
  | .exit id, A, s => some (.exit id, A, s)
  | .ret, A, s => some (.ret, A, s)
  | .bad, _, _ => none
theorem regF_eq (keep : List Nat) (x : Option (Frame × ASt)) : regF keep x = x.map fun (A, s) => (AExit.normal, A.keep keep, s) := by
  cases x with
  | none => rfl
  | some p => simp only [regF, keptF_eq]; rfl
theorem execF_eq (call : CallFn) (loop : LoopFn) : ∀ (c : ACode) (A : Frame) (s : ASt), execF call loop c A s = exec call loop c A s
  | .skip, _, _ => rfl
  | .region none ops keep, A, s => by simp only [execF, exec, regF_eq, exOpsF_eq]
  | .region (some []) ops keep, A, s => by simp only [execF, exec, regF_eq, exOpsF_eq, exDraw_nil]
  | .region (some (x :: l)) ops keep, A, s => by simp only [execF, exec, regF_eq]
  | .seq a b, A, s => by
    simp only [execF, exec, execF_eq call loop a A s]
    cases exec call loop a A s with
    | none => rfl
    | some p =>
      obtain ⟨e, A1, s1⟩ := p
      cases e
      · exact execF_eq call loop b _ _
      · rfl
      · rfl
  | .cond c a b, A, s => by
    simp only [execF, exec, evF_eq]
    cases c.ev A <;> try rfl
    rename_i t
    cases t
    · exact execF_eq call loop b _ _
    · exact execF_eq call loop a _ _
  | .block id a, A, s => by
    simp only [execF, exec, execF_eq call loop a A s]
    cases exec call loop a A s <;> rfl
  | .loop a keep, A, s => rfl
  | .exit _, _, _ => rfl
  | .ret, _, _ => rfl
  | .bad, _, _ => rfl

def finF (live : Bool) (n : Nat) (s' : ASt) : Option AVal → Option (AVal × ASt)
  | some v => match live with
    | true => some (v, s')
    | false => match Nat.beq s'.n n with
      | true => some (v, s')
      | false => match fz n s' depth v with
        | some v => some (v, s'.trunc n)
        | none => none
  | none => none
def bodyF (call : CallFn) (loop : LoopFn) (f : AFunc) (args : List AVal) (s : ASt) : Option (AVal × ASt) :=
  match Nat.beq args.length f.params with
  | true => match execF call loop f.code (params 0 args) s with
    | some p => match p.1 with
      | .normal => finF f.live s.n p.2.2 (results p.2.1 p.2.2 f.results)
      | .ret => finF f.live s.n p.2.2 (results p.2.1 p.2.2 f.results)
      | _ => none
    | none => none
  | false => none
theorem finF_eq (live : Bool) (n : Nat) (s' : ASt) (x : Option AVal) : finF live n s' x = (do
    let v ← x
    if live ∨ s'.n = n then some (v, s') else do
    let v ← fz n s' depth v
    some (v, s'.trunc n)) := by
  cases x with
  | none => rfl
  | some v =>
    cases live with
    | true => simp [finF]
    | false =>
      simp only [finF, Option.bind_eq_bind, Option.bind_some]
      cases h : Nat.beq s'.n n with
      | true => rw [if_pos (.inr (Nat.eq_of_beq_eq_true h))]
      | false =>
        rw [if_neg (by simp [Nat.ne_of_beq_eq_false h])]
        cases fz n s' depth v <;> rfl
theorem bodyF_eq (call : CallFn) (loop : LoopFn) (f : AFunc) (args : List AVal) (s : ASt) : bodyF call loop f args s = runBody call loop f args s := by
  simp only [bodyF, runBody]
  cases h : Nat.beq args.length f.params with
  | false => rw [if_neg (Nat.ne_of_beq_eq_false h)]
  | true =>
    rw [if_pos (Nat.eq_of_beq_eq_true h), execF_eq]
    cases exec call loop f.code (params 0 args) s with
    | none => rfl
    | some p =>
      obtain ⟨e, A1, s1⟩ := p
      cases e <;> simp only [finF_eq] <;> rfl

def callF (C : Cfg) (call : CallFn) (loop : LoopFn) : CallFn := fun f args s =>
  match C.ext f with
  | some g => g args s
  | none => match C.funcs f with
    | some fn => bodyF call loop fn args s
    | none => none
def loopF (call : CallFn) (loop : LoopFn) : LoopFn := fun b keep A s =>
  match execF call loop b (keptF A keep) s with
  | some p => match p.1 with
    | .normal => match Nat.beq p.2.2.n s.n with
      | true => loop b keep p.2.1 p.2.2
      | false => match keepF s.n p.2.2 p.2.1 keep with
        | some B => loop b keep B (p.2.2.trunc s.n)
        | none => none
    | e => some (e, p.2)
  | none => none
def uptoF (C : Cfg) : Nat → CallFn × LoopFn
  | 0 => (fun _ _ _ => none, fun _ _ _ _ => none)
  | k + 1 => (callF C (uptoF C k).1 (uptoF C k).2, loopF (uptoF C k).1 (uptoF C k).2)

theorem callF_eq (C : Cfg) (call : CallFn) (loop : LoopFn) : callF C call loop = stepCall C call loop := by
  funext f args s
  simp only [callF, stepCall]
  cases C.ext f with
  | some g => rfl
  | none => cases C.funcs f with
    | none => rfl
    | some fn => simp only [bodyF_eq]
theorem loopF_eq (call : CallFn) (loop : LoopFn) : loopF call loop = stepLoop call loop := by
  funext b keep A s
  simp only [loopF, stepLoop, execF_eq, keptF_eq]
  cases exec call loop b (A.keep keep) s with
  | none => rfl
  | some p =>
    obtain ⟨e, A1, s1⟩ := p
    cases e with
    | normal =>
      simp only [Option.bind_some]
      cases h : Nat.beq s1.n s.n with
      | true => rw [if_pos (Nat.eq_of_beq_eq_true h)]
      | false =>
        rw [if_neg (Nat.ne_of_beq_eq_false h)]
        cases keepF s.n s1 A1 keep <;> rfl
    | exit id => rfl
    | ret => rfl
theorem uptoF_eq (C : Cfg) : ∀ k, uptoF C k = upto C k
  | 0 => rfl
  | k + 1 => by simp only [uptoF, upto, uptoF_eq C k, callF_eq, loopF_eq]

end Go.Proofs.YtdhgdpokdhjanaaGreat.Abs
