/- The range over the nodes of a tree: visit calls yield with the nodes, one behind the other. -/
import Derived.Test.YtdhgdpokdhjanaaGreatX1
import Derived.Test.YtdhgdpokdhjanaaGreatA38
import Derived.RangeFuncRecord
set_option linter.unusedSimpArgs false
set_option linter.unusedVariables false
namespace Go.Proofs.YtdhgdpokdhjanaaGreat.Abs
open Go

def extShapes : List AVal → ASt → Option (AVal × ASt)
  | [], s => some (.imap (ksOf tab) (vsOf tab), s)
  | _, _ => none
/-- With the shapes. -/
def C1 : Cfg := ⟨funcs0, fun f => match f with
  | 385 => some extShapes
  | f => extLib f⟩

/-! ### The nodes of a tree, in order -/

mutual
def preV : AVal → Option (List (List AVal))
  | .nils => some []
  | .sl cs n .none => if cs.length = 5 * n ∧ n ≤ limit then preL cs else none
  | .sl cs n .exact => if cs.length = 5 * n ∧ n ≤ limit then preL cs else none
  | _ => none
def preL : List AVal → Option (List (List AVal))
  | [] => some []
  | .int .i64 k :: .str t :: .int .i64 p :: .int .i64 e :: kv :: r => (preV kv).bind fun x => (preL r).map fun y => [.int .i64 k, .str t, .int .i64 p, .int .i64 e, kv] :: (x ++ y)
  | _ => none
end

theorem preL_cons {rem : List AVal} {y : List (List AVal)} (h : preL rem = some y) : (rem = [] ∧ y = []) ∨ ∃ k t p e kv r x z, rem = .int .i64 k :: .str t :: .int .i64 p :: .int .i64 e :: kv :: r ∧ preV kv = some x ∧ preL r = some z ∧ y = [.int .i64 k, .str t, .int .i64 p, .int .i64 e, kv] :: (x ++ z) := by
  unfold preL at h
  split at h
  · cases h; exact .inl ⟨rfl, rfl⟩
  · rename_i k t p e kv r
    obtain ⟨x, hx, h⟩ := bind_some' h
    obtain ⟨z, hz, h⟩ := map_some' h
    exact .inr ⟨k, t, p, e, kv, r, x, z, rfl, hx, hz, h.symm⟩
  · cases h

theorem preV_cases {kv : AVal} {y : List (List AVal)} (h : preV kv = some y) : (kv = .nils ∧ y = []) ∨ ∃ cs n o, kv = .sl cs n o ∧ (o = .none ∨ o = .exact) ∧ cs.length = 5 * n ∧ n ≤ limit ∧ preL cs = some y := by
  unfold preV at h
  split at h
  · cases h; exact .inl ⟨rfl, rfl⟩
  · split at h
    · rename_i hc; exact .inr ⟨_, _, _, rfl, .inl rfl, hc.1, hc.2, h⟩
    · cases h
  · split at h
    · rename_i hc; exact .inr ⟨_, _, _, rfl, .inr rfl, hc.1, hc.2, h⟩
    · cases h
  · cases h

def stepsF (f : List AVal → Bool → Option Bool) : List (List AVal) → Bool → Option Bool
  | [], ok => some ok
  | x :: l, ok => (f x ok).bind (stepsF f l)
theorem stepsF_append {f : List AVal → Bool → Option Bool} : ∀ {x y : List (List AVal)} {ok r : Bool}, stepsF f (x ++ y) ok = some r → ∃ ok1, stepsF f x ok = some ok1 ∧ stepsF f y ok1 = some r
  | [], y, ok, r, h => ⟨ok, rfl, h⟩
  | a :: x, y, ok, r, h => by
    obtain ⟨b, h1, h2⟩ := bind_some' h
    obtain ⟨c, h3, h4⟩ := stepsF_append h2
    exact ⟨c, by simp only [stepsF, h1, Option.bind_some]; exact h3, h4⟩

/-! ### Values and the objects that they see -/

mutual
theorem rep_under {fm : Nat → Nat} {g : Gh} {n : Nat} : ∀ {a : AVal} {v : Value}, Rep fm g n a v → a.under n = true
  | _, _, .undef v => rfl
  | _, _, .bool b => rfl
  | _, _, .int k i => rfl
  | _, _, .str l => rfl
  | _, _, .nilp => rfl
  | _, _, .nils => rfl
  | _, _, .nilm => rfl
  | _, _, .nilf => rfl
  | _, _, .nili => rfl
  | _, _, .ref r off b hr hb => by simp [AVal.under, hr]
  | _, _, .ipt cs off b base vs h hp => by simp only [AVal.under]; exact repL_under h
  | _, _, .sl cs len o b base cap vs ho hc h hp => by
    simp only [AVal.under, repL_under h, Bool.true_and]
    rcases ho with rfl | ⟨rfl, _⟩ <;> rfl
  | _, _, .sl0 a cap => rfl
  | _, _, .map r b hr hb => by simp [AVal.under, hr]
  | _, _, .imap ks vs b cks cvs hb hk hv => by simp only [AVal.under, repL_under hk, repL_under hv, Bool.and_self]
  | _, _, .imapU ks vs ks0 vs0 b cks cvs hb hk hv hf hu => by simp only [AVal.under, (hu n).1, (hu n).2.1, Bool.and_self]
  | _, _, .fn f xs ys us vs h1 h2 hf => by simp only [AVal.under, repL_under h1, repL_under h2, Bool.and_self]
  | _, _, .yld f l hf => rfl
  | _, _, .agg cs vs h => by simp only [AVal.under]; exact repL_under h
  | _, _, .tup cs vs h => by simp only [AVal.under]; exact repL_under h
theorem repL_under {fm : Nat → Nat} {g : Gh} {n : Nat} : ∀ {cs : List AVal} {vs : List Value}, RepL fm g n cs vs → underL n cs = true
  | _, _, .nil => rfl
  | _, _, .cons a v cs vs h t => by simp only [underL, rep_under h, repL_under t, Bool.and_self]
end

theorem mapM_fz {n : Nat} {s : ASt} {k : Nat} : ∀ {cs : List AVal}, (∀ c ∈ cs, c.strip = c ∧ c.under n = true) → cs.mapM (fun c => fz n s (k + 1) c.strip) = some cs
  | [], _ => rfl
  | c :: cs, h => by
    have h1 := h c (by simp)
    rw [List.mapM_cons, mapM_fz (fun d hd => h d (by simp [hd])), h1.1]
    have : fz n s (k + 1) c = some c := by
      unfold fz
      rw [if_pos h1.2]
    rw [this]
    rfl

theorem repL_idle {fm : Nat → Nat} {g : Gh} {n : Nat} {cs : List AVal} {vs : List Value} (h : RepL fm g n cs vs) : ∀ c ∈ cs, c.strip = c ∧ c.under n = true := by
  intro c hc
  obtain ⟨i, hi⟩ := List.mem_iff_getElem?.1 hc
  obtain ⟨v, _, hv⟩ := h.get i c hi
  exact ⟨hv.strip_id, rep_under hv⟩

/-- What lies at an object that ends. -/
theorem fz_ref {n : Nat} {s : ASt} {r : Nat} {cs : List AVal} (hr : n ≤ r) (hg : s.get r = some (.cells cs)) (h : ∀ c ∈ cs, c.strip = c ∧ c.under n = true) : fz n s depth (.ref r 0) = some (.ipt cs 0) := by
  show fz n s (63 + 1) _ = _
  unfold fz
  rw [if_neg (by simp [AVal.under]; omega)]
  simp only [hg, mapM_fz (k := 62) h, Option.map_some]

theorem fz_under {n : Nat} {s : ASt} {a : AVal} (h : a.under n = true) : fz n s depth a = some a := by
  show fz n s (63 + 1) _ = _
  unfold fz
  rw [if_pos h]

theorem wrap_i64 {x : Int} (h1 : 0 ≤ x) (h2 : x < 9223372036854775808) : IntKind.wrap .i64 x = x := by
  show (if (true && decide (x % 18446744073709551616 ≥ 9223372036854775808)) = true then x % 18446744073709551616 - 18446744073709551616 else x % 18446744073709551616) = x
  have h3 : x % 18446744073709551616 = x := by omega
  rw [if_neg (by simp only [Bool.true_and, decide_eq_true_eq]; omega), h3]

/-! ### The loop's record, the rounds -/

def Y (l : Nat) : AVal := .fn (2000000 + l) [] []
def yv (l : Nat) : Value := .func (.yield l) #[] #[]

def okSt (ok : Bool) : ASt := ⟨1, [.cells [.bool ok]]⟩

structure Loops (fm : Nat → Nat) (l D : Nat) (rec : Go.Loop) (gB : Gh) (ok : Bool) (g : Gh) (w : World) : Prop where
  sim : Sim fm (okSt ok) g w
  fl : Foreign g l
  hl : w.heap[l]? = some (.loop rec)
  fD : Foreign g D
  hD : w.heap[D]? = some (.deferred (some []))
  le : le 1 gB g

section
variable {P : Program} {fm : Nat → Nat} {l D : Nat} {rec : Go.Loop} {gB g g' g'' : Gh} {ok ok' : Bool} {w w' w'' : World}

theorem Loops.next (h : Loops fm l D rec gB ok g w) (hS : Sim fm (okSt ok') g' w') (hle : Abs.le 1 g g') (hk : Kept g g' w w') : Loops fm l D rec gB ok' g' w' := by
  obtain ⟨a1, a2⟩ := h.fl.kept hk
  obtain ⟨b1, b2⟩ := h.fD.kept hk
  exact ⟨hS, a1, by rw [a2, h.hl], b1, by rw [b2, h.hD], h.le.trans hle⟩

/-- What a stretch of the rounds leaves. -/
def Stretch (fm : Nat → Nat) (ok' : Bool) (g : Gh) (w : World) (g' : Gh) (w' : World) : Prop := Sim fm (okSt ok') g' w' ∧ le 1 g g' ∧ Kept g g' w w'

theorem Stretch.trans {ok'' : Bool} (h : Stretch fm ok' g w g' w') (h' : Stretch fm ok'' g' w' g'' w'') : Stretch fm ok'' g w g'' w'' :=
  ⟨h'.1, h.2.1.trans h'.2.1, h.2.2.trans h'.2.2⟩

/-- One round, for each node. -/
def RoundsGo (P : Program) (fm : Nat → Nat) (l D : Nat) (rec : Go.Loop) (gB : Gh) (f : List AVal → Bool → Option Bool) : Prop :=
  ∀ x ok ok' g w v m, f x ok = some ok' → Loops fm l D rec gB ok g w → Rep fm g 1 (.agg x) v →
    RoundIn (FW none) m P l rec.fn (rec.tmps.setIfInBounds 11 v) rec.assign rec.body w fun e w' => e = .returned (.bool true) ∧ ∃ g', Stretch fm ok' g w g' w'

theorem yield_op {m : Nat} {f : List AVal → Bool → Option Bool} (hG : RoundsGo P fm l D rec gB f) (hps : rec.params = #[11]) {a : Act} {o : Oper} {fo xo : Operand} {ts : Array TypeId} (hop : o.op = .call { callee := .value fo, args := #[xo], argTypes := ts })
    (hf : a.eval fo = yv l) {x : List AVal} {v : Value} (hv : a.eval xo = v) (hx : Rep fm g 1 (.agg x) v) (hs : f x ok = some ok') (hL : Loops fm l D rec gB ok g w) {K : Act → World → Prop} {Q : Exit → Act → World → Prop}
    (hK : ∀ g' w', Stretch fm ok' g w g' w' → K (a.put o.dst (.bool true)) w') : o.wpIn (FW none) m P a w K Q := by
  have hrun : (execOp a.eval o).run P w = .ok (.round l rec.fn (rec.tmps.setIfInBounds 11 v) rec.assign rec.body) w := by
    have h1 := run_yield (P := P) (args := #[v]) hL.hl (by rw [hps]; rfl)
    rw [hps] at h1
    obtain ⟨dst, op, ty, pos, after, gd⟩ := o
    simp only at hop
    subst hop
    simp only [execOp, resolve, hf, yv, Sem.run_bind, Deferred.ofValue, Sem.run_pure, Result.andThen_ok, invoke]
    simpa [hv] using h1
  refine ⟨fun _ _ => trivial, ?_⟩
  rw [Oper.semAt_eq _ _ _ (by intro c e; rw [hop] at e; cases e), hrun, Oper.uponIn_round]
  refine ⟨fun h => by simp [FW] at h, ?_⟩
  refine (hG x ok ok' g w v (m - 1) hs hL hx).mono ?_
  rintro e w' ⟨rfl, g', h⟩
  exact hK g' w' h

end

/-! ### visit -/

def vBody : ACode := match part 2 f387.code with
  | .seq _ (.block _ (.loop b _)) => b
  | _ => .bad
def vKeep : List Nat := [1, 12, 13, 14]

def opsR : ACode → List AOper
  | .region none ops _ => ops
  | _ => []
def inner (k : Nat) : ACode → ACode
  | .seq a b => match k with
    | 0 => a
    | _ => b
  | .block _ a => a
  | .loop a _ => a
  | c => c

section
variable {P : Program} {fm : Nat → Nat} {l D : Nat} {rec : Go.Loop} {gB g g' g'' : Gh} {ok ok' : Bool} {w w' w'' : World}

def VisitGoes (P : Program) (fm : Nat → Nat) (l D : Nat) (rec : Go.Loop) (gB : Gh) (f : List AVal → Bool → Option Bool) (N : Nat) : Prop :=
  ∀ k t p e kv y, preV kv = some y → y.length + 1 ≤ N → ∀ ok ok', stepsF f ([.int .i64 k, .str t, .int .i64 p, .int .i64 e, kv] :: y) ok = some ok' → ∀ g w v m, Loops fm l D rec gB ok g w →
    Rep fm g 1 (.agg [.int .i64 k, .str t, .int .i64 p, .int .i64 e, kv]) v → CallsIn (FW none) m P (fm 387) #[v, yv l] w fun en w' => en = .returned (.bool true) ∧ ∃ g', Stretch fm ok' g w g' w'

def loopFrame (l : Nat) (kv : AVal) (n i : Nat) : Frame := [(1, Y l), (12, kv), (13, .int .i64 n), (14, .int .i64 i)]

def LoopGoes (P : Program) (fm : Nat → Nat) (nt : Nat) (lc : Code) (l D : Nat) (rec : Go.Loop) (gB : Gh) (f : List AVal → Bool → Option Bool) (N : Nat) : Prop :=
  ∀ rem y, preL rem = some y → y.length ≤ N → ∀ ok ok', stepsF f y ok = some ok' → ∀ kv n i, (rem = [] ∧ i = n ∨ ∃ cs o, kv = .sl cs n o ∧ (o = .none ∨ o = .exact) ∧ cs.length = 5 * n ∧ rem = cs.drop (5 * i) ∧ i ≤ n ∧ n ≤ limit) →
    ∀ j, y.length < j → ∀ (Q : Exit → Act → World → Prop) g w a m, Loops fm l D rec gB ok g w → FrameRep fm g 1 nt (loopFrame l kv n i) a.tmps →
      (∀ a' w' g', Stretch fm ok' g w g' w' → a'.tmps.size = nt → a'.defers = a.defers → Q (.exit 0) a' w') → Code.roundsIn (FW none) m P lc Q j a w


theorem loop_exit {K : CallFn} {L : LoopFn} (kv : AVal) (n : Nat) (s : ASt) : exec K L vBody (loopFrame l kv n n) s = some (.exit 0, [(1, Y l), (12, kv), (13, .int .i64 n), (14, .int .i64 n), (15, .bool false)], s) := by
  simp [vBody, f387, part, loopFrame, Y, exec, exOps, wanted, aop, Opd.ev, Frame.get, AVal.strip, abin, cmpInt, Frame.putO, Frame.put, Frame.keep]

def v4 : ACode := inner 0 vBody
def vC : ACode := inner 0 (inner 1 vBody)
def v5 : ACode := inner 0 (inner 0 (inner 0 (inner 1 (inner 1 vBody))))
def v6 : ACode := inner 0 (inner 1 (inner 0 (inner 0 (inner 1 (inner 1 vBody)))))
def v6c : ACode := inner 1 (inner 1 (inner 0 (inner 0 (inner 1 (inner 1 vBody)))))
def v8 : ACode := inner 1 (inner 1 (inner 1 vBody))
theorem vBody_is : vBody = .seq v4 (.seq vC (.seq (.block 1 (.seq v5 (.seq v6 v6c))) v8)) := rfl

def kid5 (k : Int) (t : List UInt8) (p e : Int) (kv : AVal) : List AVal := [.int .i64 k, .str t, .int .i64 p, .int .i64 e, kv]

theorem ex_v4 {K : CallFn} {L : LoopFn} (kv : AVal) (n i : Nat) (h : i < n) (s : ASt) : exec K L v4 (loopFrame l kv n i) s = some (.normal, [(1, Y l), (12, kv), (13, .int .i64 n), (14, .int .i64 i), (15, .bool true)], s) := by
  simp [v4, inner, vBody, f387, part, loopFrame, Y, exec, exOps, wanted, aop, Opd.ev, Frame.get, AVal.strip, abin, cmpInt, Frame.putO, Frame.put, Frame.keep, h]
theorem ex_vC {K : CallFn} {L : LoopFn} (kv : AVal) (n i : Nat) (s : ASt) : exec K L vC [(1, Y l), (12, kv), (13, .int .i64 n), (14, .int .i64 i), (15, .bool true)] s = some (.normal, [(1, Y l), (12, kv), (13, .int .i64 n), (14, .int .i64 i), (15, .bool true)], s) := by
  simp [vC, inner, vBody, f387, part, exec, Opd.ev, Frame.get, AVal.strip]
theorem one_int (k : IntKind) (i : Int) : (AVal.int k i).one = true := rfl
theorem one_str (t : List UInt8) : (AVal.str t).one = true := rfl
theorem ex_v5 {K : CallFn} {L : LoopFn} {cs : List AVal} {n i : Nat} {o : Own} (ho : o = .none ∨ o = .exact) (hi : i < n) {k : Int} {t : List UInt8} {p e : Int} {kv : AVal} (hcut : cut cs (i * 5) 5 = some (kid5 k t p e kv)) (hone : kv.one = true) (hst : kv.strip = kv) (hu : kv.under 1 = true) (ok : Bool) :
    exec K L v5 [(1, Y l), (12, .sl cs n o), (13, .int .i64 n), (14, .int .i64 i), (15, .bool true)] (okSt ok) =
      some (.normal, [(1, Y l), (6, .ref 1 0), (12, .sl cs n o), (13, .int .i64 n), (14, .int .i64 i)], ⟨2, [.cells (kid5 k t p e kv), .cells [.bool ok]]⟩) := by
  have hu2 : kv.under 2 = true := under_mono (by omega) hu
  rcases ho with rfl | rfl <;>
  simp [v5, inner, vBody, f387, part, Y, exec, exOps, wanted, aop, Opd.ev, Frame.get, AVal.strip, Frame.putO, Frame.put, Frame.keep, okSt, hi, loadAt, hcut, kid5, mk, ASt.push, storeAt, ASt.get, getL, AVal.cells, mayPutL, mayPut, underL, AVal.under, one_int, one_str, hone, splice, ASt.set, setL, Opd.taken, hst, hu2]
theorem ex_v6c {K : CallFn} {L : LoopFn} (kv : AVal) (n i : Nat) (s : ASt) : exec K L v6c [(1, Y l), (12, kv), (13, .int .i64 n), (14, .int .i64 i), (21, .bool false)] s = some (.normal, [(1, Y l), (12, kv), (13, .int .i64 n), (14, .int .i64 i), (21, .bool false)], s) := by
  simp [v6c, inner, vBody, f387, part, exec, Opd.ev, Frame.get, AVal.strip]
theorem ex_v8 {K : CallFn} {L : LoopFn} (kv : AVal) (n i : Nat) (hi : i < n) (hn : n ≤ limit) (s : ASt) : exec K L v8 [(1, Y l), (12, kv), (13, .int .i64 n), (14, .int .i64 i), (21, .bool false)] s = some (.normal, loopFrame l kv n (i + 1), s) := by
  have hw : IntKind.wrap .i64 ((i : Int) + 1) = (i : Int) + 1 := wrap_i64 (by omega) (by unfold limit at hn; omega)
  simp [v8, inner, vBody, f387, part, exec, exOps, wanted, aop, Opd.ev, Frame.get, AVal.strip, abin, cmpInt, Frame.putO, Frame.put, Frame.keep, loopFrame, hw]

theorem stretch_of {nt : Nat} {A A' : Frame} {a a' : Act} (h : RPost fm nt g w (okSt ok) (okSt ok) A' a a' g' w') : Stretch fm ok g w g' w' := ⟨h.sim, h.le, h.kept⟩

theorem keepF_five {s : ASt} {x kv : AVal} {cells : List AVal} {n i : Nat} (hs : s.get 1 = some (.cells cells)) (hc : ∀ c ∈ cells, c.strip = c ∧ c.under 1 = true) (hkv : kv.under 1 = true) :
    keepF 1 s [(1, Y l), (6, .ref 1 0), (12, kv), (13, .int .i64 n), (14, .int .i64 i)] [1, 6, 12, 13, 14] = some [(1, Y l), (6, .ipt cells 0), (12, kv), (13, .int .i64 n), (14, .int .i64 i)] := by
  have e1 : fz 1 s depth (Y l) = some (Y l) := fz_under rfl
  have e2 : fz 1 s depth (.ref 1 0) = some (.ipt cells 0) := fz_ref (Nat.le_refl _) hs hc
  have e3 : fz 1 s depth kv = some kv := fz_under hkv
  have e4 : ∀ j : Int, fz 1 s depth (.int .i64 j) = some (.int .i64 j) := fun j => fz_under rfl
  simp [keepF, Frame.get, e1, e2, e3, e4]

/-- The callee of a call that sees a node and yield. -/
theorem visit_args {n : Nat} (hY : fm (2000000 + l) = 1000000 + l) {x : AVal} {vs : Array Value} (h : RepL fm g n [x, Y l] vs.toList) : ∃ v, vs = #[v, yv l] ∧ Rep fm g n x v := by
  generalize hvs : vs.toList = vl at h
  cases h with
  | cons _ v1 _ _ h1 ht =>
  cases ht with
  | cons _ v2 _ _ h2 ht =>
  cases ht with
  | nil =>
  obtain rfl : vs = #[v1, v2] := Array.ext' hvs
  refine ⟨v1, ?_, h1⟩
  have : v2 = yv l := by
    unfold Y at h2
    cases h2 with
    | fn _ _ _ us ws q1 q2 hf => omega
    | yld _ l' hf =>
      have : l' = l := by omega
      subst this
      rfl
  rw [this]

theorem loop_goes (hC : Sound P fm C1) (hY : fm (2000000 + l) = 1000000 + l) (hen : Enters P (fm 387)) {nt : Nat} {lc : Code} (hlc : okCode P fm nt vBody lc = true) {f : List AVal → Bool → Option Bool} {N : Nat} (hV : VisitGoes P fm l D rec gB f N)
    (hL : ∀ M, M < N → LoopGoes P fm nt lc l D rec gB f M) : LoopGoes P fm nt lc l D rec gB f N := by
  intro rem y hrem hy ok ok' hs kv n i hkv j hj Q g w a m hLp hF hQ
  obtain ⟨hcall, hloop⟩ := upto_sound hC 1
  have hmx := hC.mixed
  obtain ⟨j, rfl⟩ : ∃ k, j = k + 1 := ⟨j - 1, by omega⟩
  rw [roundsIn_succ]
  rcases preL_cons hrem with ⟨rfl, rfl⟩ | ⟨k, t, p, e, kv1, r, x, z, rfl, hx, hz, rfl⟩
  · have hin : i = n := by
      rcases hkv with ⟨_, h⟩ | ⟨cs, o, _, _, h1, h2, h3, _⟩
      · exact h
      · have := congrArg List.length h2
        simp only [List.length_nil, List.length_drop] at this
        omega
    subst hin
    simp only [stepsF, Option.some.injEq] at hs
    subst hs
    refine exec_sound hmx hcall (hloop nt) vBody lc _ (okSt ok) g w a (.exit 0) _ (okSt ok) _ hlc hLp.sim hF (loop_exit kv i _) (fun a' w' g' hp => ?_)
    exact hQ a' w' g' (stretch_of (A := []) hp) hp.frame.1 hp.defers
  · rcases hkv with ⟨h, _⟩ | ⟨cs, o, rfl, ho, hcs, hdrop, hin, hlim⟩
    · cases h
    have hlen : 5 * i + 5 ≤ cs.length := by
      have := congrArg List.length hdrop
      simp only [List.length_cons, List.length_drop] at this
      omega
    have hi : i < n := by omega
    have hcut : cut cs (i * 5) 5 = some (kid5 k t p e kv1) := by
      unfold cut
      rw [if_pos (by omega), Nat.mul_comm i 5, ← hdrop]
      rfl
    have hr : r = cs.drop (5 * (i + 1)) := by
      rw [show 5 * (i + 1) = 5 * i + 5 from by omega, ← List.drop_drop, ← hdrop]
      rfl
    obtain ⟨ok1, hs1, hs2⟩ := stepsF_append (x := kid5 k t p e kv1 :: x) (y := z) (by simpa [kid5] using hs)
    rw [vBody_is] at hlc
    obtain ⟨c4, c5, rfl, k4, hlc⟩ := okCode_seq hlc
    obtain ⟨cC, c6, rfl, kC, hlc⟩ := okCode_seq hlc
    obtain ⟨cB, c8, rfl, kB, k8⟩ := okCode_seq hlc
    obtain ⟨cB, rfl, kB⟩ := okCode_block kB
    obtain ⟨cR5, cR, rfl, k5, kB⟩ := okCode_seq kB
    obtain ⟨cR6, cK, rfl, k6, kK⟩ := okCode_seq kB
    have hkvr : Rep fm g 1 (.sl cs n o) (a.tmps.getD 12 undef) := by
      have := tmp_val (s := okSt ok) hF 12
      exact slot_idle (by rcases ho with rfl | rfl <;> rfl) this
    have hcells : ∀ c ∈ kid5 k t p e kv1, c.strip = c ∧ c.under 1 = true := by
      have hsub : ∀ c ∈ kid5 k t p e kv1, c ∈ cs := by
        intro c hc
        have : kid5 k t p e kv1 = (cs.drop (5 * i)).take 5 := by rw [← hdrop]; rfl
        rw [this] at hc
        exact List.mem_of_mem_drop (List.mem_of_mem_take hc)
      intro c hc
      have hm := hsub c hc
      generalize hcv : a.tmps.getD 12 undef = cv at hkvr
      cases hkvr with
      | sl _ _ _ b base cap vs _ _ hR _ => exact repL_idle hR c hm
      | sl0 ad cap => simp at hm
    have hkv1 := hcells kv1 (by simp [kid5])
    have hone : kv1.one = true := by
      rcases preV_cases hx with ⟨rfl, _⟩ | ⟨_, _, _, rfl, _⟩ <;> rfl
    refine wpIn_seq (exec_sound hmx hcall (hloop nt) v4 c4 _ (okSt ok) g w a .normal _ (okSt ok) _ k4 hLp.sim hF (ex_v4 _ n i hi _) (fun a1 w1 g1 p1 => ?_))
    refine wpIn_seq (exec_sound hmx hcall (hloop nt) vC cC _ (okSt ok) g1 w1 a1 .normal _ (okSt ok) _ kC p1.sim p1.frame (ex_vC _ n i _) (fun a2 w2 g2 p2 => ?_))
    refine wpIn_seq (wpIn_block ?_)
    refine wpIn_seq (exec_sound hmx hcall (hloop nt) v5 cR5 _ (okSt ok) g2 w2 a2 .normal _ _ _ k5 p2.sim p2.frame (ex_v5 ho hi hcut hone hkv1.1 hkv1.2 ok) (fun a3 w3 g3 p3 => ?_))
    have p3 : RPost fm nt g2 w2 (okSt ok) (okSt ok) [(1, Y l), (6, .ipt (kid5 k t p e kv1) 0), (12, .sl cs n o), (13, .int .i64 n), (14, .int .i64 i)] a2 a3 (g3.frozen (okSt ok).n w3) w3 :=
      freeze_post p3 (keepF_five (l := l) (x := .undef) (n := n) (i := i) (kv := .sl cs n o) (cells := kid5 k t p e kv1) rfl hcells (rep_under hkvr))
    generalize hg3 : g3.frozen (okSt ok).n w3 = g3' at p3
    have p13 := (p1.trans p2).trans p3
    have hLp3 := hLp.next (ok' := ok) p13.sim p13.le p13.kept
    obtain ⟨rid, ops6, rfl, k6⟩ := okCode_region k6
    refine wpIn_seq (region_special (s1 := okSt ok) (s2 := okSt ok1) (v := .bool true) (pre := [⟨some 18, .load 5 true (.tmp 6), none⟩, ⟨some 19, .mov (.tmp 1), none⟩]) (sp := ⟨some 20, .call (.fn 387) [(.tmp 18), (.tmp 19)], none⟩)
      (post := [⟨some 21, .un .not (.tmp 20), none⟩]) (keep := [1, 12, 13, 14, 21]) hcall k6 rfl p13.sim p13.frame
      (A1 := [(19, Y l), (18, .agg (kid5 k t p e kv1)), (1, Y l), (6, .ipt (kid5 k t p e kv1) 0), (12, .sl cs n o), (13, .int .i64 n), (14, .int .i64 i)]) ?_ ?_ ?_ rfl (fun a4 w4 g4 p4 => ?_))
    · rfl
    · exact idle_frame (by rcases ho with rfl | rfl <;> rfl)
    · intro o1 a5 w5 g5 hok5 p5 K hK
      unfold okOper at hok5
      simp only [Bool.and_eq_true, beq_iff_eq] at hok5
      obtain ⟨⟨⟨hd5, hdn5⟩, hop5⟩, hgd5⟩ := hok5
      clear hdn5 hgd5
      obtain ⟨dst, op, ty, pos, after, gd⟩ := o1
      cases op <;> try (simp only [okOp, Bool.false_eq_true] at hop5; done)
      rename_i c
      obtain ⟨callee, cargs, ts⟩ := c
      cases callee <;> simp only [okOp, Bool.false_eq_true, Bool.and_eq_true] at hop5
      rename_i fo
      obtain ⟨vs, hvs, hrun⟩ := run_call (w := w5) (ty := ty) (ts := ts) p5.frame hop5.1 hop5.2 (i := 387) (first := []) (captured := []) rfl hen
      have hvs' : RepL fm g5 1 [.agg (kid5 k t p e kv1), Y l] vs.toList := hvs
      obtain ⟨v, rfl, hv⟩ := visit_args hY hvs'
      have hLp5 := hLp3.next (ok' := ok) p5.sim p5.le p5.kept
      refine ⟨fun _ _ => trivial, ?_⟩
      rw [Oper.semAt_eq _ _ _ (by intro c e; cases e)]
      have hrun' : (execOp a5.eval { dst := dst, op := .call { callee := .value fo, args := cargs, argTypes := ts }, type := ty, pos := pos, after := after, guard := gd }).run P w5 = .ok (.enter (fm 387) #[v, yv l]) w5 := hrun
      rw [hrun', Oper.uponIn_enter]
      refine ⟨fun h => by simp [FW] at h, ?_⟩
      refine (hV k t p e kv1 x hx (by simp only [List.length_cons, List.length_append] at hy; omega) ok ok1 hs1 g5 w5 v (m - 1) hLp5 hv).mono ?_
      rintro en w6 ⟨rfl, g6, h6⟩
      exact hK (.bool true) g6 w6 h6.1 h6.2.1 (Nat.le_refl _) h6.2.2 (.bool true)
    · have hp4 : RPost fm nt g3' w3 (okSt ok) (okSt ok1) [(1, Y l), (12, .sl cs n o), (13, .int .i64 n), (14, .int .i64 i), (21, .bool false)] a3 a4 g4 w4 := p4
      have p14 := p13.trans hp4
      refine exec_sound hmx hcall (hloop nt) v6c cK _ (okSt ok1) g4 w4 a4 .normal _ (okSt ok1) _ kK p14.sim p14.frame (ex_v6c _ n i _) (fun a5 w5 g5 p5 => ?_)
      refine exec_sound hmx hcall (hloop nt) v8 c8 _ (okSt ok1) g5 w5 a5 .normal _ (okSt ok1) _ k8 p5.sim p5.frame (ex_v8 _ n i hi hlim _) (fun a6 w6 g6 p6 => ?_)
      have p16 := (p14.trans p5).trans p6
      have hS16 : Stretch fm ok1 g w g6 w6 := ⟨p16.sim, p16.le, p16.kept⟩
      have hzlen : z.length < N := by simp only [List.length_cons, List.length_append] at hy; omega
      refine hL z.length hzlen r z hz (Nat.le_refl _) ok1 ok' hs2 (.sl cs n o) n (i + 1) (.inr ⟨cs, o, rfl, ho, hcs, hr, by omega, hlim⟩) j (by simp only [List.length_cons, List.length_append] at hj; omega) Q g6 w6 a6 m
        (hLp.next p16.sim p16.le p16.kept) p16.frame (fun a7 w7 g7 h7 hz7 hd7 => hQ a7 w7 g7 (hS16.trans h7) hz7 (hd7.trans p16.defers))

def w0 : ACode := part 0 f387.code
def w1 : ACode := inner 0 (part 1 f387.code)
def w1c : ACode := inner 1 (part 1 f387.code)
def w2 : ACode := inner 0 (part 2 f387.code)
def w3 : ACode := inner 1 (inner 1 (inner 1 f387.code))
theorem f387_is : f387.code = .seq w0 (.seq (.seq w1 w1c) (.seq (.seq w2 (.block 0 (.loop vBody vKeep))) w3)) := rfl

theorem ex_w0 {K : CallFn} {L : LoopFn} (x : List AVal) (ok : Bool) : exec K L w0 [(0, .agg x), (1, Y l)] (okSt ok) = some (.normal, [(1, Y l), (2, .ref 1 0)], ⟨2, [.cells x, .cells [.bool ok]]⟩) := rfl
theorem ex_w1c {K : CallFn} {L : LoopFn} (x : List AVal) (s : ASt) : exec K L w1c [(1, Y l), (2, .ipt x 0), (10, .bool false)] s = some (.normal, [(1, Y l), (2, .ipt x 0), (10, .bool false)], s) := rfl
theorem ex_w2 {K : CallFn} {L : LoopFn} (k : Int) (t : List UInt8) (p e : Int) (kv : AVal) (n : Nat) (h : (kv = .nils ∧ n = 0) ∨ ∃ cs o, kv = .sl cs n o ∧ (o = .none ∨ o = .exact)) (s : ASt) :
    exec K L w2 [(1, Y l), (2, .ipt (kid5 k t p e kv) 0), (10, .bool false)] s = some (.normal, loopFrame l kv n 0, s) := by
  rcases h with ⟨rfl, rfl⟩ | ⟨cs, o, rfl, rfl | rfl⟩ <;> rfl
theorem ex_w3 {K : CallFn} {L : LoopFn} (s : ASt) : exec K L w3 [] s = some (.ret, [(4, .bool true)], s) := rfl

theorem visit_goes (hC : Sound P fm C1) (hps : rec.params = #[11]) (hY : fm (2000000 + l) = 1000000 + l) {fn : Func} (hfn : P.funcs[fm 387]? = some fn) (hok : okFunc P fm f387 fn = true) {f : List AVal → Bool → Option Bool} (hG : RoundsGo P fm l D rec gB f) {N : Nat}
    (hL : ∀ lc, okCode P fm fn.ntmps vBody lc = true → ∀ M, M < N → LoopGoes P fm fn.ntmps lc l D rec gB f M) : VisitGoes P fm l D rec gB f N := by
  intro k t p e kv y hkv hy ok ok' hs g w v m hLp hv
  obtain ⟨hcall, hloop⟩ := upto_sound hC 1
  have hmx := hC.mixed
  unfold okFunc at hok
  cases hbody : fn.body with
  | none => rw [hbody] at hok; cases hok
  | some c =>
  rw [hbody] at hok
  simp only [Bool.and_eq_true, decide_eq_true_eq, Bool.not_eq_true'] at hok
  obtain ⟨⟨⟨hok1, hok2⟩, hok3⟩, hok4⟩ := hok
  rw [f387_is] at hok1
  obtain ⟨c0, cr0, rfl, k0, hr0⟩ := okCode_seq hok1
  obtain ⟨c10, cr1, rfl, k10, hr1⟩ := okCode_seq hr0
  obtain ⟨c1, c1c, rfl, k1a, k1c⟩ := okCode_seq k10
  obtain ⟨c20, c3, rfl, k20, k3⟩ := okCode_seq hr1
  obtain ⟨c2, cB0, rfl, k2, kB0⟩ := okCode_seq k20
  obtain ⟨cB, rfl, kB1⟩ := okCode_block kB0
  obtain ⟨lc, rfl, kB⟩ := okCode_loop kB1
  obtain ⟨rid, ops1, rfl, k1⟩ := okCode_region k1a
  have hYr : Rep fm g 1 (Y l) (yv l) := .yld _ _ hY
  have hR : RepL fm g (okSt ok).n [.agg (kid5 k t p e kv), Y l] (#[v, yv l] : Array Value).toList := .cons _ _ _ _ hv (.cons _ _ _ _ hYr .nil)
  have hF := params_frame (nt := fn.ntmps) hR hok3
  have hcells : ∀ c ∈ kid5 k t p e kv, c.strip = c ∧ c.under 1 = true := by
    cases hv with
    | agg _ vs h => exact repL_idle h
  have hn : ∃ n cs o, ((kv = .nils ∧ n = 0 ∧ cs = []) ∨ (kv = .sl cs n o ∧ (o = .none ∨ o = .exact) ∧ cs.length = 5 * n ∧ n ≤ limit)) ∧ preL cs = some y := by
    rcases preV_cases hkv with ⟨rfl, rfl⟩ | ⟨cs, n, o, rfl, h1, h2, h3, h4⟩
    · exact ⟨0, [], .none, .inl ⟨rfl, rfl, rfl⟩, rfl⟩
    · exact ⟨n, cs, o, .inr ⟨rfl, h1, h2, h3⟩, h4⟩
  obtain ⟨n, cs, o, hn, hpre⟩ := hn
  obtain ⟨ok1, hs1, hs2⟩ := bind_some' hs
  refine callsIn_of_wp hfn hbody trivial ?_ rfl
  refine wpIn_seq (exec_sound hmx hcall (hloop fn.ntmps) w0 c0 _ (okSt ok) g w _ .normal _ _ _ k0 hLp.sim hF (ex_w0 _ ok) (fun a1 w1 g1 p1 => ?_))
  have p1 : RPost fm fn.ntmps g w (okSt ok) (okSt ok) [(1, Y l), (2, .ipt (kid5 k t p e kv) 0)] _ a1 (g1.frozen (okSt ok).n w1) w1 := freeze_post p1 (ds := [1, 2]) (by
    have e1 : fz 1 (⟨2, [.cells (kid5 k t p e kv), .cells [.bool ok]]⟩ : ASt) depth (Y l) = some (Y l) := fz_under rfl
    have e2 : fz 1 (⟨2, [.cells (kid5 k t p e kv), .cells [.bool ok]]⟩ : ASt) depth (.ref 1 0) = some (.ipt (kid5 k t p e kv) 0) := fz_ref (Nat.le_refl _) rfl hcells
    show keepF 1 _ _ _ = _
    simp [keepF, Frame.get, e1, e2])
  generalize hg1 : g1.frozen (okSt ok).n w1 = g1' at p1
  have hLp1 := hLp.next (ok' := ok) p1.sim p1.le p1.kept
  refine wpIn_seq (wpIn_seq (region_special (s1 := okSt ok) (s2 := okSt ok1) (v := .bool true) (pre := [⟨some 7, .mov (.tmp 1), none⟩, ⟨some 8, .load 5 true (.tmp 2), none⟩]) (sp := ⟨some 9, .call (.tmp 7) [(.tmp 8)], none⟩)
      (post := [⟨some 10, .un .not (.tmp 9), none⟩]) (keep := [1, 2, 10]) hcall k1 rfl p1.sim p1.frame
      (A1 := [(8, .agg (kid5 k t p e kv)), (7, Y l), (1, Y l), (2, .ipt (kid5 k t p e kv) 0)]) ?_ ?_ ?_ rfl (fun a2 w2 g2 p2 => ?_)))
  · rfl
  · exact idle_frame rfl
  · intro o1 a5 w5 g5 hok5 p5 K hK
    unfold okOper at hok5
    simp only [Bool.and_eq_true, beq_iff_eq] at hok5
    obtain ⟨⟨⟨hd5, hdn5⟩, hop5⟩, hgd5⟩ := hok5
    clear hdn5 hgd5
    obtain ⟨dst, op, ty, pos, after, gd⟩ := o1
    cases op <;> try (simp only [okOp, Bool.false_eq_true] at hop5; done)
    rename_i c
    obtain ⟨callee, cargs, ts⟩ := c
    cases callee <;> simp only [okOp, Bool.false_eq_true, Bool.and_eq_true] at hop5
    rename_i fo
    have hfo := okOpd_rep p5.frame hop5.1
    obtain ⟨xo, hxo, hcx⟩ : ∃ xo, cargs = #[xo] ∧ okOpd fm (.tmp 8) xo = true := by
      obtain ⟨l⟩ := cargs
      match l, hop5.2 with
      | [xo], h => exact ⟨xo, rfl, by simpa [okOpds] using h⟩
      | [], h => simp [okOpds] at h
      | _ :: _ :: _, h => simp [okOpds] at h
    subst hxo
    have hxv := okOpd_rep p5.frame hcx
    have hfv : a5.eval fo = yv l := by
      have hfo : Rep fm g5 1 (Y l) (a5.eval fo) := hfo
      unfold Y at hfo
      generalize a5.eval fo = cv at hfo
      cases hfo with
      | fn _ _ _ us ws q1 q2 hf => omega
      | yld _ l' hf =>
        have : l' = l := by omega
        subst this
        rfl
    have hLp5 := hLp1.next (ok' := ok) p5.sim p5.le p5.kept
    exact yield_op hG hps rfl hfv rfl hxv hs1 hLp5 (fun g6 w6 h6 => hK (.bool true) g6 w6 h6.1 h6.2.1 (Nat.le_refl _) h6.2.2 (.bool true))
  · have hp2 : RPost fm fn.ntmps g1' w1 (okSt ok) (okSt ok1) [(1, Y l), (2, .ipt (kid5 k t p e kv) 0), (10, .bool false)] a1 a2 g2 w2 := p2
    have p12 := p1.trans hp2
    refine exec_sound hmx hcall (hloop fn.ntmps) w1c c1c _ (okSt ok1) g2 w2 a2 .normal _ (okSt ok1) _ k1c p12.sim p12.frame (ex_w1c _ _) (fun a3 w3' g3 p3 => ?_)
    have p13 := p12.trans p3
    refine wpIn_seq (wpIn_seq (exec_sound hmx hcall (hloop fn.ntmps) Abs.w2 c2 _ (okSt ok1) g3 w3' a3 .normal _ (okSt ok1) _ k2 p13.sim p13.frame (ex_w2 k t p e kv n (by
      rcases hn with ⟨h1, h2, _⟩ | ⟨h1, h2, _⟩
      · exact .inl ⟨h1, h2⟩
      · exact .inr ⟨cs, o, h1, h2⟩) _) (fun a4 w4 g4 p4 => ?_)))
    have p14 := p13.trans p4
    have hS14 : Stretch fm ok1 g w g4 w4 := ⟨p14.sim, p14.le, p14.kept⟩
    refine wpIn_block (wpIn_loop_rounds (y.length + 1) (hL lc kB y.length (by omega) cs y hpre (Nat.le_refl _) ok1 ok' hs2 kv n 0 ?_ (y.length + 1) (by omega) _ g4 w4 a4 m (hLp.next p14.sim p14.le p14.kept) p14.frame (fun a5 w5 g5 h5 hz5 hd5 => ?_)))
    · rcases hn with ⟨h1, h2, h3⟩ | ⟨h1, h2, h3, h4⟩
      · exact .inl ⟨h3, h2.symm⟩
      · exact .inr ⟨cs, o, h1, h2, h3, by simp, Nat.zero_le _, h4⟩
    · have hS15 := hS14.trans h5
      simp only [Exit.inBlock, if_true]
      refine exec_sound hmx hcall (hloop fn.ntmps) Abs.w3 c3 [] (okSt ok') g5 w5 a5 .ret _ (okSt ok') _ k3 h5.1 ⟨hz5, fun d hd => absurd rfl hd⟩ (ex_w3 _) (fun a6 w6 g6 p6 => ?_)
      obtain ⟨cv, g7, q1, q2, q3, q4, q5⟩ := results_sound p6.sim p6.frame (rs := [.slot 4]) hok2 (v := .bool true) rfl
      refine ⟨p6.defers.trans (hd5.trans p14.defers), cv, q1, ?_⟩
      have hcv : cv = .bool true := Rep.bool_inv q5
      subst hcv
      have hS67 : Stretch fm ok' g5 w5 g7 w6 := ⟨q2, p6.le.trans q3, p6.kept.trans q4⟩
      exact ⟨rfl, g7, hS15.trans hS67⟩

theorem both_go (hC : Sound P fm C1) (hps : rec.params = #[11]) (hY : fm (2000000 + l) = 1000000 + l) {fn : Func} (hfn : P.funcs[fm 387]? = some fn) (hok : okFunc P fm f387 fn = true) (hen : Enters P (fm 387)) {f : List AVal → Bool → Option Bool} (hG : RoundsGo P fm l D rec gB f) :
    ∀ N, VisitGoes P fm l D rec gB f N ∧ ∀ lc, okCode P fm fn.ntmps vBody lc = true → LoopGoes P fm fn.ntmps lc l D rec gB f N := by
  intro N
  induction N using Nat.strongRecOn with
  | _ N ih =>
    have hV := visit_goes hC hps hY hfn hok hG (N := N) (fun lc hlc M hM => (ih M hM).2 lc hlc)
    exact ⟨hV, fun lc hlc => loop_goes hC hY hen hlc hV (fun M hM => (ih M hM).2 lc hlc)⟩

end
end Go.Proofs.YtdhgdpokdhjanaaGreat.Abs
