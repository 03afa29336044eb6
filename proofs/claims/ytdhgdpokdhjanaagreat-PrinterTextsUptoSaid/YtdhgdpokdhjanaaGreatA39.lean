/- The machine, step by step: laws by which 'simp' goes on only where it knows the frame. -/
import Derived.Test.YtdhgdpokdhjanaaGreatA25
set_option linter.unusedSimpArgs false
set_option linter.unusedVariables false
namespace Go.Proofs.YtdhgdpokdhjanaaGreat.Abs
open Go

abbrev XRes := Option (AExit × Frame × ASt)
abbrev ORes := Option (AVal × Frame × ASt)

def thenX (K : CallFn) (L : LoopFn) (b : ACode) : XRes → XRes
  | some (.normal, A, s) => exec K L b A s
  | some (.exit i, A, s) => some (.exit i, A, s)
  | some (.ret, A, s) => some (.ret, A, s)
  | none => none
def keepX (keep : List Nat) : Option (Frame × ASt) → XRes
  | some (A, s) => some (.normal, A.keep keep, s)
  | none => none
def blockX (id : Nat) : XRes → XRes
  | some (.normal, A, s) => some (.normal, A, s)
  | some (.exit i, A, s) => some (if i = id then .normal else .exit i, A, s)
  | some (.ret, A, s) => some (.ret, A, s)
  | none => none
def condX (K : CallFn) (L : LoopFn) (a b : ACode) (A : Frame) (s : ASt) : AVal → XRes
  | .bool t => if t then exec K L a A s else exec K L b A s
  | _ => none
def opX (K : CallFn) (dst : Option Nat) (r : List AOper) : ORes → Option (Frame × ASt)
  | some (v, A, s) => exOps K r (A.putO dst v) s
  | none => none
def guardX (K : CallFn) (dst : Option Nat) (op : AOp) (r : List AOper) (A : Frame) (s : ASt) (w : Bool) : AVal → Option (Frame × ASt)
  | .bool b => if b = w then opX K dst r (aop K op A s) else exOps K r (A.putO dst (.tup [])) s
  | .tup _ => exOps K r (A.putO dst (.tup [])) s
  | _ => none
def retX (A : Frame) (s : ASt) : Option AVal → ORes
  | some v => some (v, A, s)
  | none => none
def pickX (A : Frame) (s : ASt) (a b : AVal) : AVal → ORes
  | .bool true => some (a, A, s)
  | .bool false => some (b, A, s)
  | _ => none
def storeY (A : Frame) : Option ASt → ORes
  | some s => some (.undef, A, s)
  | none => none
def storeX (n : Nat) (a : AVal) (s : ASt) : AVal × Frame → ORes
  | (x, A) => storeY A (storeAt s n a x)
def faX (A : Frame) (s : ASt) (off : Nat) : AVal → ORes
  | .ref r o => some (.ref r (o + off), A, s)
  | .ipt cs o => some (.ipt cs (o + off), A, s)
  | _ => none
def fldX (A : Frame) (s : ASt) (off n : Nat) (agg : Bool) : AVal → ORes
  | .agg cs => retX A s ((cut cs off n).bind (mk agg))
  | _ => none
def iaX (A : Frame) (s : ASt) (size : Nat) : AVal → AVal → ORes
  | .sl cs n _, .int _ i => if 0 ≤ i ∧ i < n then some (.ipt cs (i.toNat * size), A, s) else none
  | _, _ => none
def idX (A : Frame) (s : ASt) : AVal → AVal → ORes
  | .str l, .int _ i => if 0 ≤ i then retX A s ((l[i.toNat]?).map fun b => .int .u8 b.toNat) else none
  | _, _ => none
def lookY (A : Frame) (s : ASt) (zero : AVal) (ok : Bool) : Option (Option AVal) → ORes
  | some r => some (if ok then .tup [r.getD zero, .bool r.isSome] else r.getD zero, A, s)
  | none => none
def lookX (A : Frame) (s : ASt) (kt : KT) (zero : AVal) (ok : Bool) (k : AVal) : Option (List AVal × List AVal) → ORes
  | some (ks, vs) => lookY A s zero ok (find kt k ks vs)
  | none => none
def exX (A : Frame) (s : ASt) (i : Nat) : AVal → ORes
  | .tup vs => retX A s vs[i]?
  | _ => none
def ncX (A : Frame) (s : ASt) : AVal → ORes
  | .ref r o => some (.ref r o, A, s)
  | .ipt cs o => some (.ipt cs o, A, s)
  | .fn f a b => some (.fn f a b, A, s)
  | _ => none
def resX (A : Frame) : Option (AVal × ASt) → ORes
  | some (v, s) => some (v, A, s)
  | none => none
def callX (K : CallFn) (A : Frame) (s : ASt) (xs : List AVal) : AVal → ORes
  | .fn i a b => resX A (K i (a ++ xs ++ b) s)
  | _ => none
def pureX (A : Frame) (s : ASt) : Option (AVal × ASt) → ORes
  | some (v, s') => if s'.n = 0 then some (v, A, s) else none
  | none => none
def cpY (K : CallFn) (A : Frame) (s : ASt) (i : Nat) (xs : List AVal) : Bool → ORes
  | true => pureX A s (K i xs ⟨0, []⟩)
  | false => none
def cpX (K : CallFn) (A : Frame) (s : ASt) (xs : List AVal) : AVal → ORes
  | .fn i a b => cpY K A s i (a ++ xs ++ b) (underL 0 (a ++ xs ++ b))
  | _ => none
def lenX (A : Frame) (s : ASt) : Bool → AVal → ORes
  | true, .str l => some (.int .i64 l.length, A, s)
  | false, .sl _ n _ => some (.int .i64 n, A, s)
  | false, .nils => some (.int .i64 0, A, s)
  | _, _ => none
def mmX (A : Frame) (s : ASt) (max : Bool) : AVal → AVal → ORes
  | .int k a, .int j b => if k = j then some (.int k (if max then (if b > a then b else a) else (if b < a then b else a)), A, s) else none
  | _, _ => none
def boxX (A : Frame) (s : ASt) (v : AVal) : ORes := if v.known then some (.ref s.n 0, A, s.push (.cells v.cells)) else none
def truncX (n : Nat) (s : ASt) : Option AVal → Option (AVal × ASt)
  | some v => some (v, s.trunc n)
  | none => none
def finX (live : Bool) (n : Nat) (s : ASt) : Option AVal → Option (AVal × ASt)
  | some v => if live ∨ s.n = n then some (v, s) else truncX n s (fz n s depth v)
  | none => none
def endX (rs : List ARes) (live : Bool) (n : Nat) : XRes → Option (AVal × ASt)
  | some (.normal, A, s) => finX live n s (results A s rs)
  | some (.ret, A, s) => finX live n s (results A s rs)
  | some (.exit _, _, _) => none
  | none => none
def lpY (L : LoopFn) (b : ACode) (keep : List Nat) (n : Nat) (s : ASt) : Option Frame → XRes
  | some B => L b keep B (s.trunc n)
  | none => none
def lpX (L : LoopFn) (b : ACode) (keep : List Nat) (n : Nat) : XRes → XRes
  | some (.normal, A, s) => if s.n = n then L b keep A s else lpY L b keep n s (keepF n s A keep)
  | some (.exit i, A, s) => some (.exit i, A, s)
  | some (.ret, A, s) => some (.ret, A, s)
  | none => none

section
variable {K : CallFn} {L : LoopFn} {A : Frame} {s : ASt}

theorem v_seq {a b : ACode} : exec K L (.seq a b) A s = thenX K L b (exec K L a A s) := by
  simp only [exec]
  rcases exec K L a A s with _ | ⟨e, A, s⟩
  · rfl
  · cases e <;> rfl
theorem v_skip : exec K L .skip A s = some (.normal, A, s) := rfl
theorem v_ret : exec K L .ret A s = some (.ret, A, s) := rfl
theorem v_exit {i : Nat} : exec K L (.exit i) A s = some (.exit i, A, s) := rfl
theorem v_reg {ops : List AOper} {keep : List Nat} : exec K L (.region none ops keep) A s = keepX keep (exOps K ops A s) := by
  simp only [exec]
  rcases exOps K ops A s with _ | ⟨A, s⟩ <;> rfl
theorem v_regs {ops : List AOper} {keep : List Nat} : exec K L (.region (some []) ops keep) A s = keepX keep (exOps K ops A s) := by
  simp only [exec, exDraw_nil]
  rcases exOps K ops A s with _ | ⟨A, s⟩ <;> rfl
theorem v_cond {c : Opd} {a b : ACode} : exec K L (.cond c a b) A s = condX K L a b A s (c.ev A) := by
  simp only [exec]
  cases c.ev A <;> rfl
theorem v_block {i : Nat} {a : ACode} : exec K L (.block i a) A s = blockX i (exec K L a A s) := by
  simp only [exec]
  rcases exec K L a A s with _ | ⟨e, A, s⟩
  · rfl
  · cases e with
    | normal => rfl
    | ret => rfl
    | exit j =>
      simp only [Option.map_some, blockX, AExit.exit.injEq]
theorem v_loop {a : ACode} {keep : List Nat} : exec K L (.loop a keep) A s = L a keep A s := rfl

theorem v_then_n {b : ACode} : thenX K L b (some (.normal, A, s)) = exec K L b A s := rfl
theorem v_then_r {b : ACode} : thenX K L b (some (.ret, A, s)) = some (.ret, A, s) := rfl
theorem v_then_e {b : ACode} {i : Nat} : thenX K L b (some (.exit i, A, s)) = some (.exit i, A, s) := rfl
theorem v_keepx {keep : List Nat} : keepX keep (some (A, s)) = some (.normal, A.keep keep, s) := rfl
theorem v_block_n {i : Nat} : blockX i (some (.normal, A, s)) = some (.normal, A, s) := rfl
theorem v_block_r {i : Nat} : blockX i (some (.ret, A, s)) = some (.ret, A, s) := rfl
theorem v_block_e {i j : Nat} : blockX i (some (.exit j, A, s)) = some (if j = i then .normal else .exit j, A, s) := rfl
theorem v_cond_t {a b : ACode} : condX K L a b A s (.bool true) = exec K L a A s := rfl
theorem v_cond_f {a b : ACode} : condX K L a b A s (.bool false) = exec K L b A s := rfl
theorem v_ops_nil : exOps K [] A s = some (A, s) := rfl
theorem v_ops {dst : Option Nat} {op : AOp} {r : List AOper} : exOps K (⟨dst, op, none⟩ :: r) A s = opX K dst r (aop K op A s) := by
  simp only [exOps, wanted]
  rcases aop K op A s with _ | ⟨v, A, s⟩ <;> rfl
theorem v_opsg {dst : Option Nat} {op : AOp} {r : List AOper} {d : Nat} {w : Bool} : exOps K (⟨dst, op, some (d, w)⟩ :: r) A s = guardX K dst op r A s w (A.get d) := by
  simp only [exOps, wanted]
  cases A.get d <;> try rfl
  rename_i b
  have h : ∀ x : ORes, opX K dst r x = (x.bind fun x => match x with | (v, A, s) => exOps K r (A.putO dst v) s) := fun x => by rcases x with _ | ⟨v, A, s⟩ <;> rfl
  cases b <;> cases w <;> simp [guardX, h]
theorem v_op {dst : Option Nat} {r : List AOper} {v : AVal} : opX K dst r (some (v, A, s)) = exOps K r (A.putO dst v) s := rfl
theorem v_g_tt {dst : Option Nat} {op : AOp} {r : List AOper} : guardX K dst op r A s true (.bool true) = opX K dst r (aop K op A s) := rfl
theorem v_g_ff {dst : Option Nat} {op : AOp} {r : List AOper} : guardX K dst op r A s false (.bool false) = opX K dst r (aop K op A s) := rfl
theorem v_g_tf {dst : Option Nat} {op : AOp} {r : List AOper} : guardX K dst op r A s true (.bool false) = exOps K r (A.putO dst (.tup [])) s := rfl
theorem v_g_ft {dst : Option Nat} {op : AOp} {r : List AOper} : guardX K dst op r A s false (.bool true) = exOps K r (A.putO dst (.tup [])) s := rfl
theorem v_g_tup {dst : Option Nat} {op : AOp} {r : List AOper} {w : Bool} {l : List AVal} : guardX K dst op r A s w (.tup l) = exOps K r (A.putO dst (.tup [])) s := rfl
theorem v_putO_s {d : Nat} {v : AVal} : Frame.putO A (some d) v = (d, v) :: A := rfl
theorem v_putO_n {v : AVal} : Frame.putO A none v = A := rfl
theorem v_keep_n : Frame.keep A [] = [] := rfl
theorem v_keep_c {d : Nat} {ds : List Nat} : Frame.keep A (d :: ds) = (d, A.get d) :: Frame.keep A ds := rfl
theorem v_get {d k : Nat} {v : AVal} : Frame.get ((k, v) :: A) d = if k = d then v else Frame.get A d := rfl
theorem v_get_n {d : Nat} : Frame.get [] d = .undef := rfl

theorem v_mov {x : Opd} : aop K (.mov x) A s = some (x.ev A, A, s) := rfl
theorem v_take {x : Opd} : aop K (.take x) A s = some ((x.taken A).1, (x.taken A).2, s) := rfl
theorem v_pick {c a b : Opd} : aop K (.pick c a b) A s = pickX A s (a.ev A) (b.ev A) (c.ev A) := by
  simp only [aop]
  cases c.ev A <;> try rfl
theorem v_pick_t {a b : AVal} : pickX A s a b (.bool true) = some (a, A, s) := rfl
theorem v_pick_f {a b : AVal} : pickX A s a b (.bool false) = some (b, A, s) := rfl
theorem v_alloc {cs : List AVal} : aop K (.alloc cs) A s = some (.ref s.n 0, A, s.push (.cells cs)) := rfl
theorem v_allocB : aop K .allocB A s = some (.ref s.n 0, A, s.push (.bld [])) := rfl
theorem v_box {x : Opd} : aop K (.box x) A s = boxX A s (x.ev A) := rfl
theorem v_box_agg {cs : List AVal} : boxX A s (.agg cs) = some (.ref s.n 0, A, s.push (.cells cs)) := rfl
theorem v_box_int {k : IntKind} {i : Int} : boxX A s (.int k i) = some (.ref s.n 0, A, s.push (.cells [.int k i])) := rfl
theorem v_box_str {l : List UInt8} : boxX A s (.str l) = some (.ref s.n 0, A, s.push (.cells [.str l])) := rfl
theorem v_box_bool {b : Bool} : boxX A s (.bool b) = some (.ref s.n 0, A, s.push (.cells [.bool b])) := rfl
theorem v_box_nils : boxX A s .nils = some (.ref s.n 0, A, s.push (.cells [.nils])) := rfl
theorem v_box_sl {cs : List AVal} {n : Nat} {o : Own} : boxX A s (.sl cs n o) = some (.ref s.n 0, A, s.push (.cells [.sl cs n o])) := rfl
theorem v_box_fn {f : Nat} {a b : List AVal} : boxX A s (.fn f a b) = some (.ref s.n 0, A, s.push (.cells [.fn f a b])) := rfl
theorem v_box_ref {r o : Nat} : boxX A s (.ref r o) = some (.ref s.n 0, A, s.push (.cells [.ref r o])) := rfl
theorem v_ret_s {v : AVal} : retX A s (some v) = some (v, A, s) := rfl
theorem v_of_bind {x : Option AVal} : (do let v ← x; some (v, A, s)) = retX A s x := by cases x <;> rfl
theorem v_load {n : Nat} {agg : Bool} {a : Opd} : aop K (.load n agg a) A s = retX A s (loadAt s n agg (a.ev A)) := by
  simp only [aop]; cases loadAt s n agg (a.ev A) <;> rfl
theorem v_store {n : Nat} {a v : Opd} : aop K (.store n a v) A s = storeX n (a.ev A) s (v.taken A) := by
  simp only [aop, storeX]
  rcases v.taken A with ⟨x, B⟩
  simp only
  cases storeAt s n (a.ev A) x <;> rfl
theorem v_storex {n : Nat} {a x : AVal} {B : Frame} : storeX n a s (x, B) = storeY B (storeAt s n a x) := rfl
theorem v_storey {B : Frame} : storeY B (some s) = some (.undef, B, s) := rfl
theorem v_bin {op : BinOp} {ty : EqT} {x y : Opd} : aop K (.bin op ty x y) A s = retX A s (abin op ty (x.ev A) (y.ev A)) := by
  simp only [aop]; cases abin op ty (x.ev A) (y.ev A) <;> rfl
theorem v_un {op : UnOp} {x : Opd} : aop K (.un op x) A s = retX A s (aun op (x.ev A)) := by
  simp only [aop]; cases aun op (x.ev A) <;> rfl
theorem v_conv {k : Cv} {x : Opd} : aop K (.conv k x) A s = retX A s (aconv k (x.ev A)) := by
  simp only [aop]; cases aconv k (x.ev A) <;> rfl
theorem v_fa {off : Nat} {x : Opd} : aop K (.fieldAddr off x) A s = faX A s off (x.ev A) := by
  simp only [aop]; cases x.ev A <;> rfl
theorem v_fa_ref {off r o : Nat} : faX A s off (.ref r o) = some (.ref r (o + off), A, s) := rfl
theorem v_fa_ipt {off o : Nat} {cs : List AVal} : faX A s off (.ipt cs o) = some (.ipt cs (o + off), A, s) := rfl
theorem v_fld {off n : Nat} {agg : Bool} {x : Opd} : aop K (.field off n agg x) A s = fldX A s off n agg (x.ev A) := by
  simp only [aop]
  cases x.ev A <;> try rfl
  rename_i cs
  simp only [fldX]
  cases cut cs off n with
  | none => rfl
  | some l => simp only [Option.bind_some, Option.bind_eq_bind]; cases mk agg l <;> rfl
theorem v_fldx {off n : Nat} {agg : Bool} {cs : List AVal} : fldX A s off n agg (.agg cs) = retX A s ((cut cs off n).bind (mk agg)) := rfl
theorem v_ia {size : Nat} {x i : Opd} : aop K (.indexAddr size x i) A s = iaX A s size (x.ev A) (i.ev A) := by
  simp only [aop]
  cases x.ev A <;> try rfl
theorem v_iax {size : Nat} {cs : List AVal} {n : Nat} {o : Own} {k : IntKind} {i : Int} : iaX A s size (.sl cs n o) (.int k i) = if 0 ≤ i ∧ i < n then some (.ipt cs (i.toNat * size), A, s) else none := rfl
theorem v_id {x i : Opd} : aop K (.index x i) A s = idX A s (x.ev A) (i.ev A) := by
  simp only [aop]
  cases x.ev A <;> try rfl
  cases i.ev A <;> try rfl
  rename_i l k i
  simp only [idX]
  split
  · cases l[i.toNat]? <;> rfl
  · rfl
theorem v_idx {l : List UInt8} {k : IntKind} {i : Int} : idX A s (.str l) (.int k i) = if 0 ≤ i then retX A s ((l[i.toNat]?).map fun b => .int .u8 b.toNat) else none := rfl
theorem v_slice {str : Bool} {size : Nat} {x : Opd} {lo hi : Option Opd} : aop K (.slice str size x lo hi) A s = retX A s (aslice str size (x.ev A) (lo.map (·.ev A)) (hi.map (·.ev A))) := by
  simp only [aop]; cases aslice str size (x.ev A) (lo.map (·.ev A)) (hi.map (·.ev A)) <;> rfl
theorem v_makeMap : aop K .makeMap A s = some (.map s.n, A, s.push (.map [] [])) := rfl
theorem v_lookup {kt : KT} {zero : AVal} {ok : Bool} {m k : Opd} : aop K (.lookup kt zero ok m k) A s = lookX A s kt zero ok (k.ev A) (entries s (m.ev A)) := by
  simp only [aop]
  rcases entries s (m.ev A) with _ | ⟨ks, vs⟩
  · rfl
  · simp only [lookX, Option.bind_some, Option.bind_eq_bind]
    cases find kt (k.ev A) ks vs <;> rfl
theorem v_lookx {kt : KT} {zero : AVal} {ok : Bool} {k : AVal} {ks vs : List AVal} : lookX A s kt zero ok k (some (ks, vs)) = lookY A s zero ok (find kt k ks vs) := rfl
theorem v_looky {zero : AVal} {ok : Bool} {r : Option AVal} : lookY A s zero ok (some r) = some (if ok then .tup [r.getD zero, .bool r.isSome] else r.getD zero, A, s) := rfl
theorem v_ex {x : Opd} {i : Nat} : aop K (.extract x i) A s = exX A s i (x.ev A) := by
  simp only [aop]
  cases x.ev A <;> try rfl
  rename_i vs
  simp only [exX]
  cases vs[i]? <;> rfl
theorem v_exx {i : Nat} {vs : List AVal} : exX A s i (.tup vs) = retX A s vs[i]? := rfl
theorem v_nc {x : Opd} : aop K (.nilCheck x) A s = ncX A s (x.ev A) := by
  simp only [aop]; cases x.ev A <;> rfl
theorem v_nc_ref {r o : Nat} : ncX A s (.ref r o) = some (.ref r o, A, s) := rfl
theorem v_nc_ipt {cs : List AVal} {o : Nat} : ncX A s (.ipt cs o) = some (.ipt cs o, A, s) := rfl
theorem v_nc_fn {f : Nat} {a b : List AVal} : ncX A s (.fn f a b) = some (.fn f a b, A, s) := rfl
theorem v_makeFunc {f : Nat} {a b : List Opd} : aop K (.makeFunc f a b) A s = some (.fn f (a.map (·.ev A)) (b.map (·.ev A)), A, s) := rfl
theorem v_call {f : Opd} {args : List Opd} : aop K (.call f args) A s = callX K A s (args.map (·.ev A)) (f.ev A) := by
  simp only [aop]
  cases f.ev A <;> try rfl
  rename_i i a b
  simp only [callX]
  rcases K i (a ++ args.map (·.ev A) ++ b) s with _ | ⟨v, s'⟩ <;> rfl
theorem v_callx {xs : List AVal} {i : Nat} {a b : List AVal} : callX K A s xs (.fn i a b) = resX A (K i (a ++ xs ++ b) s) := rfl
theorem v_resx {v : AVal} : resX A (some (v, s)) = some (v, A, s) := rfl
theorem v_callp {f : Opd} {args : List Opd} : aop K (.callp f args) A s = cpX K A s (args.map (·.ev A)) (f.ev A) := by
  simp only [aop]
  cases f.ev A <;> try rfl
  rename_i i a b
  simp only [cpX]
  cases underL 0 (a ++ args.map (·.ev A) ++ b)
  · rfl
  · simp only [if_true, cpY]
    rcases K i (a ++ args.map (·.ev A) ++ b) ⟨0, []⟩ with _ | ⟨v, s'⟩
    · rfl
    · rfl
theorem v_cpx {xs : List AVal} {i : Nat} {a b : List AVal} : cpX K A s xs (.fn i a b) = cpY K A s i (a ++ xs ++ b) (underL 0 (a ++ xs ++ b)) := rfl
theorem v_cpy {xs : List AVal} {i : Nat} : cpY K A s i xs true = pureX A s (K i xs ⟨0, []⟩) := rfl
theorem v_purex {v : AVal} {os : List AObj} : pureX A s (some (v, ⟨0, os⟩)) = some (v, A, s) := rfl
theorem v_len {str : Bool} {x : Opd} : aop K (.len str x) A s = lenX A s str (x.ev A) := by
  simp only [aop]
  cases str <;> cases x.ev A <;> rfl
theorem v_len_str {l : List UInt8} : lenX A s true (.str l) = some (.int .i64 l.length, A, s) := rfl
theorem v_len_sl {cs : List AVal} {n : Nat} {o : Own} : lenX A s false (.sl cs n o) = some (.int .i64 n, A, s) := rfl
theorem v_len_nils : lenX A s false .nils = some (.int .i64 0, A, s) := rfl
theorem v_append {size : Nat} {x y : Opd} : aop K (.append size x y) A s = aappend size A s x y := rfl
theorem v_mm {max : Bool} {x y : Opd} : aop K (.minmax max x y) A s = mmX A s max (x.ev A) (y.ev A) := by
  simp only [aop]
  cases x.ev A <;> try rfl
theorem v_mmx {max : Bool} {k j : IntKind} {a b : Int} : mmX A s max (.int k a) (.int j b) = if k = j then some (.int k (if max then (if b > a then b else a) else (if b < a then b else a)), A, s) else none := rfl
theorem v_build {zero : List AVal} {parts : List (Nat × Nat × Opd)} : aop K (.build zero parts) A s = retX A s ((fill zero (parts.map fun (i, n, x) => (i, n, x.ev A))).map .agg) := by
  simp only [aop]; cases fill zero (parts.map fun (i, n, x) => (i, n, x.ev A)) <;> rfl
theorem v_buildSlice {zero : List AVal} {len : Nat} {parts : List (Nat × Nat × Opd)} : aop K (.buildSlice zero len parts) A s = retX A s ((fill (zeros zero len) (parts.map fun (i, n, x) => (i, n, x.ev A))).map fun cs => .sl cs len .exact) := by
  simp only [aop]; cases fill (zeros zero len) (parts.map fun (i, n, x) => (i, n, x.ev A)) <;> rfl

theorem v_cut1 {a : AVal} {l : List AVal} : cut (a :: l) 0 1 = some [a] := by simp [cut]
theorem v_cut4 {a b c d : AVal} : cut [a, b, c, d] 0 4 = some [a, b, c, d] := rfl
theorem v_cut5 {a b c d e : AVal} : cut [a, b, c, d, e] 0 5 = some [a, b, c, d, e] := rfl

/-! ### Operators -/

theorem ab_add {k : IntKind} {a b : Int} : abin .add .num (.int k a) (.int k b) = some (.int k (k.wrap (a + b))) := by simp [abin]
theorem ab_sub {k : IntKind} {a b : Int} : abin .sub .num (.int k a) (.int k b) = some (.int k (k.wrap (a - b))) := by simp [abin]
theorem ab_mul {k : IntKind} {a b : Int} : abin .mul .num (.int k a) (.int k b) = some (.int k (k.wrap (a * b))) := by simp [abin]
theorem ab_quo {k : IntKind} {a b : Int} : abin .quo .num (.int k a) (.int k b) = if b = 0 then none else some (.int k (k.wrap (a.tdiv b))) := by simp [abin]
theorem ab_rem {k : IntKind} {a b : Int} : abin .rem .num (.int k a) (.int k b) = if b = 0 then none else some (.int k (a.tmod b)) := by simp [abin]
theorem ab_eql {k : IntKind} {a b : Int} : abin .eql .num (.int k a) (.int k b) = some (.bool (decide (a = b))) := by simp [abin, cmpInt]
theorem ab_neq {k : IntKind} {a b : Int} : abin .neq .num (.int k a) (.int k b) = some (.bool (!decide (a = b))) := by simp [abin, cmpInt]
theorem ab_lss {k : IntKind} {a b : Int} : abin .lss .num (.int k a) (.int k b) = some (.bool (decide (a < b))) := by simp [abin, cmpInt]
theorem ab_leq {k : IntKind} {a b : Int} : abin .leq .num (.int k a) (.int k b) = some (.bool (decide (a ≤ b))) := by simp [abin, cmpInt]
theorem ab_gtr {k : IntKind} {a b : Int} : abin .gtr .num (.int k a) (.int k b) = some (.bool (decide (b < a))) := by simp [abin, cmpInt]
theorem ab_geq {k : IntKind} {a b : Int} : abin .geq .num (.int k a) (.int k b) = some (.bool (decide (b ≤ a))) := by simp [abin, cmpInt]
theorem ab_sadd {a b : List UInt8} (h : a.length + b.length ≤ limit) : abin .add .num (.str a) (.str b) = some (.str (a ++ b)) := by simp only [abin, if_pos h]
theorem ab_seq {a b : List UInt8} : abin .eql .num (.str a) (.str b) = some (.bool (a == b)) := rfl
theorem ab_sne {a b : List UInt8} : abin .neq .num (.str a) (.str b) = some (.bool (!(a == b))) := rfl
theorem ab_beq {a b : Bool} : abin .eql .bool (.bool a) (.bool b) = some (.bool (a == b)) := rfl
theorem ab_bne {a b : Bool} : abin .neq .bool (.bool a) (.bool b) = some (.bool (!(a == b))) := rfl
theorem ab_fnn : abin .eql .func .nilf .nilf = some (.bool true) := rfl
theorem ab_fnn' : abin .neq .func .nilf .nilf = some (.bool false) := rfl
theorem ab_ffn {f : Nat} {a b : List AVal} : abin .eql .func (.fn f a b) .nilf = some (.bool false) := rfl
theorem ab_ffn' {f : Nat} {a b : List AVal} : abin .neq .func (.fn f a b) .nilf = some (.bool true) := rfl
theorem ab_pnn : abin .eql .ptr .nilp .nilp = some (.bool true) := rfl
theorem ab_pnn' : abin .neq .ptr .nilp .nilp = some (.bool false) := rfl
theorem ab_prn {r o : Nat} : abin .eql .ptr (.ref r o) .nilp = some (.bool false) := rfl
theorem ab_prn' {r o : Nat} : abin .neq .ptr (.ref r o) .nilp = some (.bool true) := rfl

theorem v_run {f : AFunc} {args : List AVal} (h : args.length = f.params) : runBody K L f args s = endX f.results f.live s.n (exec K L f.code (params 0 args) s) := by
  unfold runBody
  rw [if_pos h]
  rcases exec K L f.code (params 0 args) s with _ | ⟨e, A, s'⟩
  · rfl
  · cases e with
    | exit i => rfl
    | normal =>
      simp only [Option.bind_some, endX]
      cases results A s' f.results with
      | none => rfl
      | some v =>
        simp only [Option.bind_some, Option.bind_eq_bind, finX]
        split
        · rfl
        · cases fz s.n s' depth v <;> rfl
    | ret =>
      simp only [Option.bind_some, endX]
      cases results A s' f.results with
      | none => rfl
      | some v =>
        simp only [Option.bind_some, Option.bind_eq_bind, finX]
        split
        · rfl
        · cases fz s.n s' depth v <;> rfl
theorem v_end_n {rs : List ARes} {live : Bool} {n : Nat} : endX rs live n (some (.normal, A, s)) = finX live n s (results A s rs) := rfl
theorem v_end_r {rs : List ARes} {live : Bool} {n : Nat} : endX rs live n (some (.ret, A, s)) = finX live n s (results A s rs) := rfl
theorem v_fin {live : Bool} {n : Nat} {v : AVal} : finX live n s (some v) = if live ∨ s.n = n then some (v, s) else truncX n s (fz n s depth v) := rfl
theorem v_trunc {n : Nat} {v : AVal} : truncX n s (some v) = some (v, s.trunc n) := rfl
theorem v_stepLoop {b : ACode} {keep : List Nat} : stepLoop K L b keep A s = lpX L b keep s.n (exec K L b (A.keep keep) s) := by
  unfold stepLoop
  rcases exec K L b (A.keep keep) s with _ | ⟨e, A, s'⟩
  · rfl
  · cases e with
    | exit i => rfl
    | ret => rfl
    | normal =>
      simp only [Option.bind_some, lpX]
      split
      · rfl
      · cases keepF s.n s' A keep <;> rfl
theorem v_lp_n {b : ACode} {keep : List Nat} {n : Nat} : lpX L b keep n (some (.normal, A, s)) = if s.n = n then L b keep A s else lpY L b keep n s (keepF n s A keep) := rfl
theorem v_lp_e {b : ACode} {keep : List Nat} {n i : Nat} : lpX L b keep n (some (.exit i, A, s)) = some (.exit i, A, s) := rfl
theorem v_lp_r {b : ACode} {keep : List Nat} {n : Nat} : lpX L b keep n (some (.ret, A, s)) = some (.ret, A, s) := rfl
theorem v_lpy {b : ACode} {keep : List Nat} {n : Nat} {B : Frame} : lpY L b keep n s (some B) = L b keep B (s.trunc n) := rfl
theorem v_keepF_n {n : Nat} : keepF n s A [] = some [] := rfl
theorem v_keepF_c {n d : Nat} {ds : List Nat} {v : AVal} {B : Frame} (h : fz n s depth (A.get d) = some v) (hB : keepF n s A ds = some B) : keepF n s A (d :: ds) = some ((d, v) :: B) := by
  simp only [keepF, h, hB]
  rfl
end
end Go.Proofs.YtdhgdpokdhjanaaGreat.Abs
