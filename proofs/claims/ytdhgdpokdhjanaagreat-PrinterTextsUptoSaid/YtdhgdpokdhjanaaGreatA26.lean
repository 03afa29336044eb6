/- The same once more, by the recursors themselves: what the kernel unfolds is small. -/
import Derived.Test.YtdhgdpokdhjanaaGreatA25
set_option linter.unusedSimpArgs false
set_option linter.unusedVariables false
namespace Go.Proofs.YtdhgdpokdhjanaaGreat.Abs
open Go

noncomputable def getR (A : Frame) (d : Nat) : AVal :=
  @List.rec (Nat × AVal) (fun _ => AVal) .undef (fun p _ ih => @Bool.rec (fun _ => AVal) ih p.2 (Nat.beq p.1 d)) A

noncomputable def dropR (cs : List AVal) : Nat → List AVal :=
  @List.rec AVal (fun _ => Nat → List AVal) (fun _ => []) (fun a l ih i => @Bool.rec (fun _ => List AVal) (ih (Nat.sub i 1)) (a :: l) (Nat.beq i 0)) cs
theorem dropR_eq : ∀ (cs : List AVal) (i : Nat), dropR cs i = cs.drop i
  | [], i => by simp [dropR]
  | a :: l, 0 => rfl
  | a :: l, i + 1 => dropR_eq l i
noncomputable def nthR (cs : List AVal) : Nat → Option AVal :=
  @List.rec AVal (fun _ => Nat → Option AVal) (fun _ => none) (fun a _ ih i => @Bool.rec (fun _ => Option AVal) (ih (Nat.sub i 1)) (some a) (Nat.beq i 0)) cs
theorem nthR_eq : ∀ (cs : List AVal) (i : Nat), nthR cs i = cs[i]?
  | [], i => by simp [nthR]
  | a :: l, 0 => rfl
  | a :: l, i + 1 => by
    show nthR l i = _
    rw [nthR_eq l i, List.getElem?_cons_succ]
noncomputable def consR (a : AVal) (x : Option (List AVal)) : Option (List AVal) := @Option.rec (List AVal) (fun _ => Option (List AVal)) none (fun l => some (a :: l)) x
noncomputable def takeR (cs : List AVal) : Nat → Option (List AVal) :=
  @List.rec AVal (fun _ => Nat → Option (List AVal)) (fun n => @Bool.rec (fun _ => Option (List AVal)) none (some []) (Nat.beq n 0))
    (fun a _ ih n => @Bool.rec (fun _ => Option (List AVal)) (consR a (ih (Nat.sub n 1))) (some []) (Nat.beq n 0)) cs
theorem takeR_eq : ∀ (cs : List AVal) (n : Nat), takeR cs n = if n ≤ cs.length then some (cs.take n) else none
  | [], 0 => rfl
  | [], n + 1 => rfl
  | a :: l, 0 => rfl
  | a :: l, n + 1 => by
    show consR a (takeR l n) = _
    rw [takeR_eq l n]
    by_cases h : n ≤ l.length
    · rw [if_pos h, if_pos (by simp; omega)]; rfl
    · rw [if_neg h, if_neg (by simp; omega)]; rfl
noncomputable def cutR (cs : List AVal) (off n : Nat) : Option (List AVal) :=
  @Bool.rec (fun _ => Option (List AVal)) (takeR (dropR cs off) n) (cut cs off n) (Nat.beq n 0)
theorem cutR_eq (cs : List AVal) (off n : Nat) : cutR cs off n = cut cs off n := by
  unfold cutR
  cases h : Nat.beq n 0 with
  | true => rfl
  | false =>
    have hn := Nat.ne_of_beq_eq_false h
    show takeR (dropR cs off) n = _
    rw [takeR_eq, dropR_eq]
    unfold cut
    by_cases hl : off + n ≤ cs.length
    · rw [if_pos hl, if_pos (by simp; omega)]
    · rw [if_neg hl, if_neg (by simp; omega)]
theorem cut_one (cs : List AVal) (off : Nat) : ((cut cs off 1).bind fun l => match l with
      | [v] => some v
      | _ => none) = cs[off]? := by
  unfold cut
  by_cases h : off + 1 ≤ cs.length
  · rw [if_pos h]
    have : (cs.drop off).take 1 = [cs[off]] := by
      rw [List.drop_eq_getElem_cons (by omega)]
      rfl
    simp [this, show off < cs.length from by omega]
  · rw [if_neg h]
    simp
    omega
noncomputable def loadR (s : ASt) (n : Nat) (agg : Bool) : AVal → Option AVal
  | .ref r off => match stGet s r with
    | some (.cells cs) => match agg with
      | true => (cutR cs off n).map fun l => .agg (l.map AVal.strip)
      | false => (nthR cs off).map (AVal.read r off)
    | _ => none
  | .ipt cs off => match agg with
    | true => (cutR cs off n).map .agg
    | false => match Nat.beq n 1 with
      | true => nthR cs off
      | false => loadF s n false (.ipt cs off)
  | _ => none
theorem loadR_eq (s : ASt) (n : Nat) (agg : Bool) (x : AVal) : loadR s n agg x = loadF s n agg x := by
  cases x <;> simp only [loadR, loadF, cutR_eq, nthR_eq]
  · cases stGet s _ with
    | none => rfl
    | some o => cases o <;> rfl
  · cases agg with
    | true => rfl
    | false =>
      cases h : Nat.beq n 1 with
      | false => rfl
      | true =>
        have : n = 1 := Nat.eq_of_beq_eq_true h
        subst this
        exact (cut_one _ _).symm
noncomputable def oIndexAddrR (A : Frame) (s : ASt) (size : Nat) (x : AVal) (i : AVal) : Option (AVal × Frame × ASt) := match x with
  | .sl cs n _ => match i with
    | .int _ i => match i with
      | .ofNat j => @Bool.rec (fun _ => Option (AVal × Frame × ASt)) none (some (.ipt cs (Nat.mul j size), A, s)) (Nat.ble (Nat.succ j) n)
      | .negSucc _ => none
    | _ => none
  | _ => none
theorem oIndexAddrR_eq (A : Frame) (s : ASt) (size : Nat) (x : AVal) (i : AVal) : oIndexAddrR A s size x i = oIndexAddr A s size x i := by
  cases x <;> try rfl
  cases i <;> try rfl
  rename_i cs n o k i
  cases i with
  | ofNat j =>
    show @Bool.rec (fun _ => Option (AVal × Frame × ASt)) none (some (.ipt cs (Nat.mul j size), A, s)) (Nat.ble (Nat.succ j) n) = if 0 ≤ Int.ofNat j ∧ Int.ofNat j < (n : Int) then some (.ipt cs ((Int.ofNat j).toNat * size), A, s) else none
    cases h : Nat.ble (Nat.succ j) n with
    | true =>
      have := Nat.le_of_ble_eq_true h
      rw [if_pos ⟨Int.natCast_nonneg j, Int.ofNat_lt.2 this⟩]
      rfl
    | false =>
      have h2 : ¬ (j + 1 ≤ n) := fun hh => by rw [Nat.ble_eq_true_of_le hh] at h; cases h
      rw [if_neg (fun hh => h2 (Int.ofNat_lt.1 hh.2))]
  | negSucc j =>
    show none = if 0 ≤ Int.negSucc j ∧ Int.negSucc j < (n : Int) then some (AVal.ipt cs ((Int.negSucc j).toNat * size), A, s) else none
    rw [if_neg (fun hh => by have := hh.1; simp at this)]

abbrev OpF := CallFn → Frame → ASt → Option (AVal × Frame × ASt)
def fMov (x : Opd) : OpF := fun _ A s => some (evF A x, A, s)
def fTake (x : Opd) : OpF := fun _ A s => takenF A s x
def fPick (c a b : Opd) : OpF := fun _ A s => oPick A s c a b
def fAlloc (cs : List AVal) : OpF := fun _ A s => some (.ref s.n 0, A, ⟨s.n + 1, .cells cs :: s.os⟩)
def fBox (x : Opd) : OpF := fun _ A s => oBox A s (evF A x)
def fBuild (zero : List AVal) (parts : List (Nat × Nat × Opd)) : OpF := fun call A s => aop call (.build zero parts) A s
def fBuildSlice (zero : List AVal) (len : Nat) (parts : List (Nat × Nat × Opd)) : OpF := fun call A s => aop call (.buildSlice zero len parts) A s
noncomputable def fLoad (n : Nat) (agg : Bool) (a : Opd) : OpF := fun _ A s => ret1 A s (loadR s n agg (evF A a))
def fStore (n : Nat) (a v : Opd) : OpF := fun call A s => aop call (.store n a v) A s
def fBin (op : BinOp) (ty : EqT) (x y : Opd) : OpF := fun _ A s => ret1 A s (binF op ty (evF A x) (evF A y))
def fUn (op : UnOp) (x : Opd) : OpF := fun _ A s => ret1 A s (aun op (evF A x))
def fConv (k : Cv) (x : Opd) : OpF := fun call A s => aop call (.conv k x) A s
def fFieldAddr (off : Nat) (x : Opd) : OpF := fun _ A s => oFieldAddr A s off (evF A x)
def fField (off n : Nat) (agg : Bool) (x : Opd) : OpF := fun _ A s => oField A s off n agg (evF A x)
noncomputable def fIndexAddr (size : Nat) (x i : Opd) : OpF := fun _ A s => oIndexAddrR A s size (evF A x) (evF A i)
def fIndex (x i : Opd) : OpF := fun _ A s => oIndex A s (evF A x) (evF A i)
def fSlice (str : Bool) (size : Nat) (x : Opd) (lo hi : Option Opd) : OpF := fun call A s => aop call (.slice str size x lo hi) A s
def fMakeMap : OpF := fun call A s => aop call .makeMap A s
def fInsert (kt : KT) (m k v : Opd) : OpF := fun _ A s => oInsert A s kt (evF A m) (evF A k) (evF A v)
def fLookup (kt : KT) (zero : AVal) (ok : Bool) (m k : Opd) : OpF := fun _ A s => oLookup A s kt zero ok (evF A m) (evF A k)
def fExtract (x : Opd) (i : Nat) : OpF := fun _ A s => oExtract A s i (evF A x)
def fNilCheck (x : Opd) : OpF := fun _ A s => oNilCheck A s (evF A x)
def fMakeFunc (f : Nat) (a b : List Opd) : OpF := fun _ A s => some (.fn f (evs A a) (evs A b), A, s)
def fCall (f : Opd) (args : List Opd) : OpF := fun call A s => oCall call A s args (evF A f)
def fCallp (f : Opd) (args : List Opd) : OpF := fun call A s => oCallp call A s args (evF A f)
def fAllocB : OpF := fun call A s => aop call .allocB A s
def fLen (str : Bool) (x : Opd) : OpF := fun _ A s => oLen A s str (evF A x)
def fAppend (size : Nat) (x y : Opd) : OpF := fun call A s => aop call (.append size x y) A s
def fMinmax (max : Bool) (x y : Opd) : OpF := fun call A s => aop call (.minmax max x y) A s
def fBad : OpF := fun _ _ _ => none
noncomputable def aopR (o : AOp) : OpF :=
  @AOp.rec (fun _ => OpF) fMov fTake fPick fAlloc fBox fBuild fBuildSlice fLoad fStore fBin fUn fConv fFieldAddr fField fIndexAddr fIndex fSlice fMakeMap fInsert fLookup fExtract fNilCheck fMakeFunc fCall fCallp fAllocB fLen fAppend fMinmax fBad o
theorem aopR_eq (call : CallFn) (o : AOp) (A : Frame) (s : ASt) : aopR o call A s = aopF call o A s := by
  cases o <;> try rfl
  case load n agg a =>
    show ret1 A s (loadR s n agg (evF A a)) = _
    rw [loadR_eq]
    rfl
  case indexAddr size x i =>
    show oIndexAddrR A s size (evF A x) (evF A i) = _
    rw [oIndexAddrR_eq]
    rfl
  case makeFunc f a b =>
    show some (AVal.fn f (evs A a) (evs A b), A, s) = _
    simp only [evs_eq]
    rfl

noncomputable def exOpsR (call : CallFn) (ops : List AOper) : Frame → ASt → Option (Frame × ASt) :=
  @List.rec AOper (fun _ => Frame → ASt → Option (Frame × ASt)) (fun A s => some (A, s))
    (fun o _ ih A s => @Option.rec Bool (fun _ => Option (Frame × ASt)) none
      (fun b => @Bool.rec (fun _ => Option (Frame × ASt)) (ih (A.putO o.dst (.tup [])) s)
        (@Option.rec (AVal × Frame × ASt) (fun _ => Option (Frame × ASt)) none (fun p => ih (p.2.1.putO o.dst p.1) p.2.2) (aopR o.op call A s)) b)
      (wantedF A o.guard)) ops
theorem exOpsR_eq (call : CallFn) : ∀ (ops : List AOper) (A : Frame) (s : ASt), exOpsR call ops A s = exOpsF call ops A s
  | [], _, _ => rfl
  | o :: r, A, s => by
    show (@Option.rec Bool (fun _ => Option (Frame × ASt)) none
      (fun b => @Bool.rec (fun _ => Option (Frame × ASt)) (exOpsR call r (A.putO o.dst (.tup [])) s)
        (@Option.rec (AVal × Frame × ASt) (fun _ => Option (Frame × ASt)) none (fun p => exOpsR call r (p.2.1.putO o.dst p.1) p.2.2) (aopR o.op call A s)) b)
      (wantedF A o.guard)) = _
    simp only [exOpsF, exOpsR_eq call r, aopR_eq]
    cases wantedF A o.guard with
    | none => rfl
    | some b =>
      cases b with
      | false => rfl
      | true => cases aopF call o.op A s <;> rfl

noncomputable def seqR (e : AExit) (r : Frame × ASt) (k : Frame → ASt → Option (AExit × Frame × ASt)) : Option (AExit × Frame × ASt) :=
  @AExit.rec (fun _ => Option (AExit × Frame × ASt)) (k r.1 r.2) (fun id => some (.exit id, r)) (some (.ret, r)) e
noncomputable def boolR (v : AVal) (a b : Option (AExit × Frame × ASt)) : Option (AExit × Frame × ASt) := match v with
  | .bool t => @Bool.rec (fun _ => Option (AExit × Frame × ASt)) b a t
  | _ => none
noncomputable def blockR (id : Nat) (p : AExit × Frame × ASt) : Option (AExit × Frame × ASt) :=
  @AExit.rec (fun _ => Option (AExit × Frame × ASt)) (some p) (fun i => @Bool.rec (fun _ => Option (AExit × Frame × ASt)) (some p) (some (.normal, p.2)) (Nat.beq i id)) (some p) p.1
/-- A value, worked out as far as its head, before it is handed on. -/
noncomputable def forceR {R : Type} (v : AVal) (k : AVal → R) : R :=
  @AVal.casesOn (fun _ => (AVal → R) → R) v (fun k => k .undef) (fun b k => k (.bool b)) (fun i n k => k (.int i n)) (fun l k => k (.str l)) (fun k => k .nilp) (fun k => k .nils) (fun k => k .nilm) (fun k => k .nilf) (fun k => k .nili)
    (fun r o k => k (.ref r o)) (fun cs o k => k (.ipt cs o)) (fun cs n o k => k (.sl cs n o)) (fun r k => k (.map r)) (fun a b k => k (.imap a b)) (fun f a b k => k (.fn f a b)) (fun cs k => k (.agg cs)) (fun vs k => k (.tup vs)) k
theorem forceR_eq {R : Type} (v : AVal) (k : AVal → R) : forceR v k = k v := by cases v <;> rfl
noncomputable def keepK {R : Type} (A : Frame) (ds : List Nat) : (Frame → R) → R :=
  @List.rec Nat (fun _ => (Frame → R) → R) (fun k => k []) (fun d _ ih k => forceR (getF A d) (fun v => ih (fun B => k ((d, v) :: B)))) ds
theorem keepK_eq {R : Type} (A : Frame) : ∀ (ds : List Nat) (k : Frame → R), keepK A ds k = k (keptF A ds)
  | [], _ => rfl
  | d :: ds, k => by
    show forceR (getF A d) (fun v => keepK A ds (fun B => k ((d, v) :: B))) = _
    rw [forceR_eq, keepK_eq A ds]
    rfl
noncomputable def regK (keep : List Nat) (x : Option (Frame × ASt)) : Option (AExit × Frame × ASt) :=
  @Option.rec (Frame × ASt) (fun _ => Option (AExit × Frame × ASt)) none (fun p => keepK p.1 keep (fun B => some (.normal, B, p.2))) x
theorem regK_eq (keep : List Nat) (x : Option (Frame × ASt)) : regK keep x = regF keep x := by
  cases x with
  | none => rfl
  | some p =>
    show keepK p.1 keep (fun B => some (AExit.normal, B, p.2)) = _
    rw [keepK_eq]
    rfl
noncomputable def regR (call : CallFn) (d : Option (List (Nat × Nat))) (ops : List AOper) (keep : List Nat) (plain : Option (Frame × ASt)) (A : Frame) (s : ASt) : Option (AExit × Frame × ASt) :=
  match d with
  | none => regK keep plain
  | some pairs => match pairs with
    | [] => regK keep plain
    | x :: l => regK keep (exDraw call (x :: l) ops A s)

noncomputable def execR (call : CallFn) (loop : LoopFn) (c : ACode) : Frame → ASt → Option (AExit × Frame × ASt) :=
  @ACode.rec (fun _ => Frame → ASt → Option (AExit × Frame × ASt))
    (fun A s => some (.normal, A, s))
    (fun d ops keep A s => regR call d ops keep (exOpsR call ops A s) A s)
    (fun _ _ iha ihb A s => @Option.rec (AExit × Frame × ASt) (fun _ => Option (AExit × Frame × ASt)) none (fun p => seqR p.1 p.2 ihb) (iha A s))
    (fun x _ _ iha ihb A s => boolR (evF A x) (iha A s) (ihb A s))
    (fun id _ iha A s => @Option.rec (AExit × Frame × ASt) (fun _ => Option (AExit × Frame × ASt)) none (blockR id) (iha A s))
    (fun a keep _ A s => loop a keep A s)
    (fun id A s => some (.exit id, A, s))
    (fun A s => some (.ret, A, s))
    (fun _ _ => none) c

theorem execR_eq (call : CallFn) (loop : LoopFn) : ∀ (c : ACode) (A : Frame) (s : ASt), execR call loop c A s = execF call loop c A s
  | .skip, _, _ => rfl
  | .region d ops keep, A, s => by
    show regR call d ops keep (exOpsR call ops A s) A s = _
    rw [exOpsR_eq]
    rcases d with _ | _ | ⟨x, l⟩ <;> simp only [regR, regK_eq] <;> rfl
  | .seq a b, A, s => by
    show (@Option.rec (AExit × Frame × ASt) (fun _ => Option (AExit × Frame × ASt)) none (fun p => seqR p.1 p.2 (execR call loop b)) (execR call loop a A s)) = _
    simp only [execF, execR_eq call loop a]
    cases execF call loop a A s with
    | none => rfl
    | some p =>
      obtain ⟨e, r⟩ := p
      cases e
      · exact execR_eq call loop b _ _
      · rfl
      · rfl
  | .cond x a b, A, s => by
    show boolR (evF A x) (execR call loop a A s) (execR call loop b A s) = _
    simp only [execF, execR_eq call loop a, execR_eq call loop b]
    cases evF A x <;> try rfl
    rename_i t
    cases t <;> rfl
  | .block id a, A, s => by
    show (@Option.rec (AExit × Frame × ASt) (fun _ => Option (AExit × Frame × ASt)) none (blockR id) (execR call loop a A s)) = _
    simp only [execF, execR_eq call loop a]
    cases execF call loop a A s with
    | none => rfl
    | some p =>
      obtain ⟨e, r⟩ := p
      cases e with
      | normal => rfl
      | ret => rfl
      | exit i =>
        show @Bool.rec (fun _ => Option (AExit × Frame × ASt)) (some (AExit.exit i, r)) (some (AExit.normal, r)) (Nat.beq i id) = some (if AExit.exit i = AExit.exit id then AExit.normal else AExit.exit i, r)
        cases h : Nat.beq i id with
        | true => rw [Nat.eq_of_beq_eq_true h, if_pos rfl]
        | false => rw [if_neg (fun e => Nat.ne_of_beq_eq_false h (by cases e; rfl))]
  | .loop a keep, A, s => rfl
  | .exit _, _, _ => rfl
  | .ret, _, _ => rfl
  | .bad, _, _ => rfl

noncomputable def bodyR (call : CallFn) (loop : LoopFn) (f : AFunc) (args : List AVal) (s : ASt) : Option (AVal × ASt) :=
  match Nat.beq args.length f.params with
  | true => match execR call loop f.code (params 0 args) s with
    | some p => match p.1 with
      | .normal => finF f.live s.n p.2.2 (results p.2.1 p.2.2 f.results)
      | .ret => finF f.live s.n p.2.2 (results p.2.1 p.2.2 f.results)
      | _ => none
    | none => none
  | false => none
noncomputable def callR (C : Cfg) (call : CallFn) (loop : LoopFn) : CallFn := fun f args s =>
  match C.ext f with
  | some g => g args s
  | none => match C.funcs f with
    | some fn => bodyR call loop fn args s
    | none => none
noncomputable def loopEnd (loop : LoopFn) (b : ACode) (keep : List Nat) (n : Nat) (x : Option (AExit × Frame × ASt)) : Option (AExit × Frame × ASt) :=
  match x with
  | some p => match p.1 with
    | .normal => match Nat.beq p.2.2.n n with
      | true => loop b keep p.2.1 p.2.2
      | false => match keepF n p.2.2 p.2.1 keep with
        | some B => loop b keep B (p.2.2.trunc n)
        | none => none
    | e => some (e, p.2)
  | none => none
noncomputable def loopR (call : CallFn) (loop : LoopFn) : LoopFn := fun b keep A s =>
  keepK A keep (fun B => loopEnd loop b keep s.n (execR call loop b B s))
noncomputable def uptoR (C : Cfg) (k : Nat) : CallFn × LoopFn :=
  @Nat.rec (fun _ => CallFn × LoopFn) (fun _ _ _ => none, fun _ _ _ _ => none) (fun _ ih => (callR C ih.1 ih.2, loopR ih.1 ih.2)) k

theorem execR_fun (call : CallFn) (loop : LoopFn) (c : ACode) : execR call loop c = execF call loop c := by
  funext A s; exact execR_eq call loop c A s
theorem uptoR_eq (C : Cfg) : ∀ k, uptoR C k = uptoF C k
  | 0 => rfl
  | k + 1 => by
    show (callR C (uptoR C k).1 (uptoR C k).2, loopR (uptoR C k).1 (uptoR C k).2) = _
    rw [uptoR_eq C k]
    simp only [uptoF]
    congr 1
    · funext f args s
      simp only [callR, callF, bodyR, bodyF, execR_fun]
      rfl
    · funext b keep A s
      simp only [loopR, loopF, execR_fun, keepK_eq]
      rfl
theorem of_uptoR {C : Cfg} {k f : Nat} {args : List AVal} {s : ASt} {r : AVal × ASt} (h : (uptoR C k).1 f args s = some r) : Call C f args s = some r := by
  rw [uptoR_eq, uptoF_eq] at h
  exact Call_of C h

end Go.Proofs.YtdhgdpokdhjanaaGreat.Abs
