/- The instructions of a region, one behind the other. -/
import Derived.Test.YtdhgdpokdhjanaaGreatA18
set_option linter.unusedSimpArgs false
set_option linter.unusedVariables false
namespace Go.Proofs.YtdhgdpokdhjanaaGreat.Abs
open Go

section
variable (P : Program) (fm : Nat → Nat) (nt : Nat)

def okGuard (ops : Array Oper) : Option (Nat × Bool) → Option (Nat × Bool) → Bool
  | none, none => true
  | some (d, x), some (j, y) => x == y && (match ops[j]? with
    | some o => o.dst == some d
    | none => false)
  | _, _ => false
def dstOk (nt : Nat) : Option Nat → Bool
  | some d => decide (d < nt)
  | none => true
def okOper (ops : Array Oper) (ao : AOper) (o : Oper) : Bool := o.dst == ao.dst && dstOk nt ao.dst && okOp P fm ao.op o.op && okGuard ops ao.guard o.guard
def okOpers (ops : Array Oper) : List AOper → List Oper → Bool
  | [], [] => true
  | x :: l, y :: m => okOper P fm nt ops x y && okOpers ops l m
  | _, _ => false
end

structure RPost (fm : Nat → Nat) (nt : Nat) (g : Gh) (w : World) (s s' : ASt) (A' : Frame) (a a' : Act) (g' : Gh) (w' : World) : Prop where
  sim : Sim fm s' g' w'
  le : le s.n g g'
  n : s.n ≤ s'.n
  kept : Kept g g' w w'
  frame : FrameRep fm g' s'.n nt A' a'.tmps
  defers : a'.defers = a.defers

section
variable {P : Program} {fm : Nat → Nat} {nt : Nat} {g g' g'' : Gh} {s s' s'' : ASt} {A A' A'' : Frame} {a a' a'' : Act} {w w' w'' : World}

theorem RPost.trans (h : RPost fm nt g w s s' A' a a' g' w') (h' : RPost fm nt g' w' s' s'' A'' a' a'' g'' w'') : RPost fm nt g w s s'' A'' a a'' g'' w'' :=
  ⟨h'.sim, h.le.trans (h'.le.less h.n), Nat.le_trans h.n h'.n, h.kept.trans h'.kept, h'.frame, h'.defers.trans h.defers⟩

theorem put_defers (a : Act) (d : Option Nat) (v : Value) : (a.put d v).defers = a.defers := by cases d <;> rfl

theorem wanted_run {ops : Array Oper} {r1 r2 : Option (Nat × Bool)} {n : Nat} {o : Oper} (ho : o.guard = r2) (hF : FrameRep fm g n nt A a.tmps) (hok : okGuard ops r1 r2 = true) {b : Bool}
    (h : wanted A r1 = some b) : Region.wanted o (yielded ops a.tmps) = b := by
  unfold Region.wanted
  rw [ho]
  cases r1 with
  | none =>
    cases r2 with
    | none => simp only [wanted, Option.some.injEq] at h; exact h
    | some x => simp [okGuard] at hok
  | some x =>
    obtain ⟨d, wt⟩ := x
    cases r2 with
    | none => simp [okGuard] at hok
    | some y =>
      obtain ⟨j, wt'⟩ := y
      simp only [okGuard, Bool.and_eq_true, beq_iff_eq] at hok
      obtain ⟨rfl, hj⟩ := hok
      simp only [wanted] at h
      have hdst : ∃ p, ops[j]? = some p ∧ p.dst = some d := by
        split at hj
        · rename_i p hp
          exact ⟨p, hp, by simpa using hj⟩
        · cases hj
      obtain ⟨p, hp, hj⟩ := hdst
      split at h
      · rename_i c hc
        cases h
        obtain ⟨v, h1, h2⟩ := hF.2 d (by rw [hc]; simp)
        rw [hc] at h2
        have hv : v = .bool c := Rep.bool_inv h2
        subst hv
        have : yielded ops a.tmps j = some c := by simp [yielded, hp, hj, h1]
        simp only [this]
        cases c <;> cases wt <;> rfl
      · rename_i vs hc
        cases h
        obtain ⟨v, h1, h2⟩ := hF.2 d (by rw [hc]; simp)
        rw [hc] at h2
        have h2 : Rep fm g n (.tup vs) v := h2
        cases h2
        have : yielded ops a.tmps j = none := by simp [yielded, hp, hj, h1]
        simp only [this]
        rfl
      · cases h

/-- One instruction, its guard and its slot. -/
theorem oper_sound {call : CallFn} {r : Option Nat} {m : Nat} (hcall : CallSound P fm call) {ops : Array Oper} {ao : AOper} {o : Oper} (hS : Sim fm s g w) (hF : FrameRep fm g s.n nt A a.tmps)
    (hok : okOper P fm nt ops ao o = true) {A' : Frame} {b : Bool} (hw : wanted A ao.guard = some b)
    (h : if b then ∃ v A1, aop call ao.op A s = some (v, A1, s') ∧ A' = A1.putO ao.dst v else A' = A.putO ao.dst (.tup []) ∧ s' = s) {i : Nat} (hi : ops[i]? = some o)
    {K : Act → World → Prop} {Q : Exit → Act → World → Prop} (hK : ∀ a' w' g', RPost fm nt g w s s' A' a a' g' w' → K a' w') : wpOpIn (FW r) m P ops Q i K a w := by
  unfold okOper at hok
  simp only [Bool.and_eq_true, beq_iff_eq] at hok
  obtain ⟨⟨⟨hd, hdn⟩, hop⟩, hg⟩ := hok
  have hdn' : ∀ d, ao.dst = some d → d < nt := fun d hd => by
    rw [hd] at hdn
    simpa [dstOk] using hdn
  have hwr := wanted_run (o := o) rfl hF hg hw
  simp only [wpOpIn, hi, hwr]
  cases b with
  | true =>
    simp only [if_true] at h ⊢
    obtain ⟨v, A1, h1, rfl⟩ := h
    refine op_sound hcall hS hF hop h1 (fun cv w' g' hp => ?_)
    obtain ⟨g2, q1, q2, q3, q4⟩ := put_sound (dst := ao.dst) hp.sim hp.frame hp.res hdn'
    rw [hd]
    exact hK _ _ g2 ⟨q1, hp.le.trans (q2.less hp.n), hp.n, hp.kept.trans q3, q4, put_defers _ _ _⟩
  | false =>
    simp only [Bool.false_eq_true, if_false] at h ⊢
    obtain ⟨rfl, rfl⟩ := h
    refine ⟨fun _ _ => trivial, ?_⟩
    obtain ⟨g2, q1, q2, q3, q4⟩ := put_sound (dst := ao.dst) (v := .tup []) (cv := undef) hS hF (Rep.tup [] [] .nil) hdn'
    rw [hd]
    exact hK _ _ g2 ⟨q1, q2, Nat.le_refl _, q3, q4, put_defers _ _ _⟩

theorem exOps_cons {call : CallFn} {o : AOper} {r : List AOper} {A : Frame} {s : ASt} {R : Frame × ASt} (h : exOps call (o :: r) A s = some R) :
    ∃ b A1 s1, wanted A o.guard = some b ∧ (if b then ∃ v A2, aop call o.op A s = some (v, A2, s1) ∧ A1 = A2.putO o.dst v else A1 = A.putO o.dst (.tup []) ∧ s1 = s) ∧ exOps call r A1 s1 = some R := by
  simp only [exOps] at h
  split at h
  · rename_i hw
    obtain ⟨⟨v, A2, s2⟩, h1, h2⟩ := bind_some' h
    exact ⟨true, _, s2, hw, ⟨v, A2, h1, rfl⟩, h2⟩
  · rename_i hw
    exact ⟨false, _, s, hw, ⟨rfl, rfl⟩, h⟩
  · cases h

theorem exOps_sound {call : CallFn} {r : Option Nat} {m : Nat} (hcall : CallSound P fm call) {ops : Array Oper} {Q : Exit → Act → World → Prop} : ∀ (aos : List AOper) (os : List Oper) (k : Nat) (A : Frame) (s : ASt) (g : Gh) (w : World) (a : Act) (A' : Frame) (s' : ASt),
    okOpers P fm nt ops aos os = true → (∀ j, os[j]? = ops[k + j]?) → Sim fm s g w → FrameRep fm g s.n nt A a.tmps → exOps call aos A s = some (A', s') →
    (∀ a' w' g', RPost fm nt g w s s' A' a a' g' w' → Q .normal a' w') → wpOpsIn (FW r) m P ops Q (List.range' k aos.length) a w
  | [], _, k, A, s, g, w, a, A', s', _, _, hS, hF, h, hQ => by
    simp only [exOps, Option.some.injEq, Prod.mk.injEq] at h
    obtain ⟨rfl, rfl⟩ := h
    exact hQ a w g ⟨hS, le.refl _ _, Nat.le_refl _, Kept.refl _ _, hF, rfl⟩
  | ao :: aos, [], _, _, _, _, _, _, _, _, h, _, _, _, _, _ => by simp [okOpers] at h
  | ao :: aos, o :: os, k, A, s, g, w, a, A', s', hok, hops, hS, hF, h, hQ => by
    simp only [okOpers, Bool.and_eq_true] at hok
    obtain ⟨b, A1, s1, hw, hstep, hrest⟩ := exOps_cons h
    simp only [List.length_cons, List.range'_succ]
    rw [wpOpsIn_cons]
    have hi : ops[k]? = some o := by simpa using (hops 0).symm
    refine oper_sound hcall hS hF hok.1 hw hstep hi (fun a1 w1 g1 hp => ?_)
    exact exOps_sound hcall aos os (k + 1) A1 s1 g1 w1 a1 A' s' hok.2 (fun j => by rw [show k + 1 + j = k + (j + 1) from by omega]; simpa using hops (j + 1)) hp.sim hp.frame hrest
      (fun a' w' g' hp' => hQ a' w' g' (hp.trans hp'))

theorem get_keep (A : Frame) (d : Nat) : ∀ ds : List Nat, (A.keep ds).get d = if d ∈ ds then A.get d else .undef
  | [] => rfl
  | k :: ds => by
    show (if k = d then A.get k else Frame.get (Frame.keep A ds) d) = _
    rw [get_keep A d ds]
    by_cases h : k = d
    · subst h; simp
    · simp only [if_neg h, List.mem_cons, Ne.symm h, false_or]

theorem FrameRep.sub {n : Nat} {B : Frame} {tmps : Array Value} (h : FrameRep fm g n nt A tmps) (hB : ∀ d, B.get d = .undef ∨ B.get d = A.get d) : FrameRep fm g n nt B tmps :=
  ⟨h.1, fun d hd => by
    rcases hB d with e | e
    · exact absurd e hd
    · rw [e] at hd ⊢; exact h.2 d hd⟩

theorem FrameRep.keeps {n : Nat} {tmps : Array Value} (ds : List Nat) (h : FrameRep fm g n nt A tmps) : FrameRep fm g n nt (A.keep ds) tmps :=
  h.sub (fun d => by rw [get_keep]; split <;> simp)

theorem region_sound {call : CallFn} {r : Option Nat} {m : Nat} (hcall : CallSound P fm call) {ops : Array Oper} {aos : List AOper} {id : Nat} {keep : List Nat} (hok : okOpers P fm nt ops aos ops.toList = true)
    (hS : Sim fm s g w) (hF : FrameRep fm g s.n nt A a.tmps) (h : exOps call aos A s = some (A', s')) {Q : Exit → Act → World → Prop}
    (hQ : ∀ a' w' g', RPost fm nt g w s s' (A'.keep keep) a a' g' w' → Q .normal a' w') : (Code.region id ops false).wpIn (FW r) m P Q a w := by
  have hlen : aos.length = ops.size := by
    have : ∀ (x : List AOper) (y : List Oper), okOpers P fm nt ops x y = true → x.length = y.length := by
      intro x
      induction x with
      | nil => intro y hy; cases y <;> simp [okOpers] at hy ⊢
      | cons a l ih => intro y hy; cases y <;> simp [okOpers] at hy ⊢; exact ih _ hy.2
    rw [this _ _ hok]; simp
  refine wpIn_region ?_
  have := exOps_sound (r := r) (m := m) (Q := Q) hcall aos ops.toList 0 A s g w a A' s' hok (fun j => by simp) hS hF h
    (fun a' w' g' hp => hQ a' w' g' ⟨hp.sim, hp.le, hp.n, hp.kept, hp.frame.keeps keep, hp.defers⟩)
  rw [hlen, ← List.range_eq_range'] at this
  exact this

end
end Go.Proofs.YtdhgdpokdhjanaaGreat.Abs
