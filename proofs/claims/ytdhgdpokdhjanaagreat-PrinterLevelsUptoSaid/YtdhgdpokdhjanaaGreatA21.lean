/- Regions whose order is open. -/
import Derived.Test.YtdhgdpokdhjanaaGreatA20
set_option linter.unusedSimpArgs false
set_option linter.unusedVariables false
namespace Go.Proofs.YtdhgdpokdhjanaaGreat.Abs
open Go

def guardSlots : Option (Nat × Bool) → List Nat
  | some (d, _) => [d]
  | none => []
def dstSlots : Option Nat → List Nat
  | some d => [d]
  | none => []
def AOper.reads (o : AOper) : List Nat := o.op.reads ++ guardSlots o.guard
def AOper.writes (o : AOper) : List Nat := o.op.takes ++ dstSlots o.dst

def AOp.looks : AOp → Bool
  | .load _ _ _ | .lookup _ _ _ _ _ => true
  | _ => false

def maskOf (masks : List Nat) : List Edge → Nat
  | [] => 0
  | e :: es => if Region.binds .any e then (2 ^ e.on ||| masks.getD e.on 0) ||| maskOf masks es else maskOf masks es
def masksOk (masks : List Nat) : Nat → List Oper → List Nat → Bool
  | _, [], [] => true
  | i, o :: os, m :: ms => m == maskOf masks o.after.toList && o.after.toList.all (fun e => !Region.binds .any e || decide (e.on < i)) && masksOk masks (i + 1) os ms
  | _, _, _ => false
def apart (a b : List Nat) : Bool := a.all fun x => !b.contains x
def pairGood (masks : List Nat) (pairs : List (Nat × Nat)) (i j : Nat) (x y : AOper) : Bool :=
  (masks.getD j 0).testBit i ||
    (apart x.writes y.reads && apart x.writes y.writes && apart x.reads y.writes && !(x.op.state && y.op.state) &&
      (!(x.op.state && y.op.looks) || pairs.contains (i, j)) && (!(x.op.looks && y.op.state) || pairs.contains (j, i)))
def pairsGood (masks : List Nat) (pairs : List (Nat × Nat)) (aos : List AOper) : Bool :=
  (List.range aos.length).all fun j => (List.range j).all fun i => match aos[i]?, aos[j]? with
    | some x, some y => pairGood masks pairs i j x y
    | _, _ => false
def masksOf : List Oper → List Nat → List Nat
  | [], acc => acc
  | o :: os, acc => masksOf os (acc ++ [maskOf acc o.after.toList])
def okDraw (pairs : List (Nat × Nat)) (aos : List AOper) (os : List Oper) : Bool :=
  masksOk (masksOf os []) 0 os (masksOf os []) && pairsGood (masksOf os []) pairs aos

def OperStep (call : CallFn) (o : AOper) (A : Frame) (s : ASt) (A' : Frame) (s' : ASt) : Prop :=
  ∃ b, wanted A o.guard = some b ∧ (if b then ∃ v A1, aop call o.op A s = some (v, A1, s') ∧ A' = A1.putO o.dst v else A' = A.putO o.dst (.tup []) ∧ s' = s)

section
variable {call : CallFn} {A B A' : Frame} {s s' t : ASt} {P : Program} {fm : Nat → Nat} {nt : Nat}

theorem get_putO (A : Frame) (dst : Option Nat) (v : AVal) (d : Nat) : (A.putO dst v).get d = if d ∈ dstSlots dst then v else A.get d := by
  cases dst with
  | none => simp [Frame.putO, dstSlots]
  | some k =>
    simp only [Frame.putO, get_put', dstSlots, List.mem_singleton]
    by_cases h : k = d
    · subst h; simp
    · simp [h, Ne.symm h]

theorem OperStep.congr {o : AOper} (h : ∀ d ∈ o.reads, A.get d = B.get d) (hx : OperStep call o A s A' s') :
    ∃ B', OperStep call o B s B' s' ∧ (∀ d ∈ o.writes, A.get d = B.get d → A'.get d = B'.get d) ∧ (∀ d, d ∉ o.writes → A'.get d = A.get d) ∧ ∀ d, d ∉ o.writes → B'.get d = B.get d := by
  obtain ⟨b, hw, hx⟩ := hx
  have hg : wanted B o.guard = some b := by
    rw [← hw]
    refine wanted_congr (fun d hd => h d (List.mem_append_right _ ?_))
    cases hgg : o.guard with
    | none => rw [hgg] at hd; simp at hd
    | some x => rw [hgg] at hd; simpa [guardSlots] using hd
  cases b with
  | true =>
    simp only [if_true] at hx
    obtain ⟨v, A1, hx, rfl⟩ := hx
    obtain ⟨B1, h1, h2⟩ := aop_congr (B := B) (fun d hd => h d (List.mem_append_left _ hd)) hx
    refine ⟨B1.putO o.dst v, ⟨true, hg, by simp only [if_true]; exact ⟨v, B1, h1, rfl⟩⟩, ?_, ?_, ?_⟩
    · intro d hd hAB
      rw [get_putO, get_putO]
      split
      · rfl
      · rename_i hn
        unfold AOper.writes at hd
        rw [List.mem_append] at hd
        exact h2.same d (hd.resolve_right hn)
    · intro d hd
      unfold AOper.writes at hd
      rw [List.mem_append, not_or] at hd
      rw [get_putO, if_neg hd.2, h2.left d hd.1]
    · intro d hd
      unfold AOper.writes at hd
      rw [List.mem_append, not_or] at hd
      rw [get_putO, if_neg hd.2, h2.right d hd.1]
  | false =>
    simp only [Bool.false_eq_true, if_false] at hx
    obtain ⟨rfl, rfl⟩ := hx
    refine ⟨B.putO o.dst (.tup []), ⟨false, hg, by simp⟩, ?_, ?_, ?_⟩
    · intro d hd hAB
      rw [get_putO, get_putO, hAB]
    · intro d hd
      unfold AOper.writes at hd
      rw [List.mem_append, not_or] at hd
      rw [get_putO, if_neg hd.2]
    · intro d hd
      unfold AOper.writes at hd
      rw [List.mem_append, not_or] at hd
      rw [get_putO, if_neg hd.2]

theorem OperStep.plain {o : AOper} (hs : o.op.state = false) (hr : wanted A o.guard = some false ∨ ReadsEq o.op A s t) (hx : OperStep call o A s A' s') : s' = s ∧ OperStep call o A t A' t := by
  obtain ⟨b, hw, hx⟩ := hx
  cases b with
  | true =>
    simp only [if_true] at hx
    obtain ⟨v, A1, hx, rfl⟩ := hx
    rcases hr with hr | hr
    · rw [hw] at hr; cases hr
    · obtain ⟨h1, h2⟩ := aop_plain hs hr hx
      exact ⟨h1, true, hw, by simp only [if_true]; exact ⟨v, A1, h2, rfl⟩⟩
  | false =>
    simp only [Bool.false_eq_true, if_false] at hx
    obtain ⟨rfl, rfl⟩ := hx
    exact ⟨rfl, false, hw, by simp⟩

theorem exTrace_steps : ∀ (aos : List AOper) (A : Frame) (s : ASt) (tr : List (Frame × ASt)), exTrace call aos A s = some tr →
    tr.length = aos.length + 1 ∧ tr[0]? = some (A, s) ∧ ∀ i o A1 s1 A2 s2, aos[i]? = some o → tr[i]? = some (A1, s1) → tr[i + 1]? = some (A2, s2) → OperStep call o A1 s1 A2 s2
  | [], A, s, tr, h => by
    simp only [exTrace, Option.some.injEq] at h
    subst h
    exact ⟨rfl, rfl, fun i o _ _ _ _ h => by simp at h⟩
  | o :: aos, A, s, tr, h => by
    have key : ∀ A1 s1 l, OperStep call o A s A1 s1 → exTrace call aos A1 s1 = some l → tr = (A, s) :: l →
        tr.length = (o :: aos).length + 1 ∧ tr[0]? = some (A, s) ∧ ∀ i o' A1 s1 A2 s2, (o :: aos)[i]? = some o' → tr[i]? = some (A1, s1) → tr[i + 1]? = some (A2, s2) → OperStep call o' A1 s1 A2 s2 := by
      intro A1 s1 l hst hl e
      subst e
      obtain ⟨q1, q2, q3⟩ := exTrace_steps aos A1 s1 l hl
      refine ⟨by simp [q1], rfl, fun i o' B1 t1 B2 t2 ho h1 h2 => ?_⟩
      cases i with
      | zero =>
        simp only [List.getElem?_cons_zero, Option.some.injEq, Prod.mk.injEq] at ho h1
        obtain ⟨rfl, rfl⟩ := h1
        subst ho
        simp only [List.getElem?_cons_succ, q2, Option.some.injEq, Prod.mk.injEq] at h2
        obtain ⟨rfl, rfl⟩ := h2
        exact hst
      | succ i =>
        simp only [List.getElem?_cons_succ] at ho h1 h2
        exact q3 i o' _ _ _ _ ho h1 h2
    simp only [exTrace] at h
    split at h
    · rename_i hw
      obtain ⟨⟨v, A2, s2⟩, h1, h2⟩ := bind_some' h
      obtain ⟨l, hl, rfl⟩ := map_some' h2
      exact key _ _ l ⟨true, hw, by simp only [if_true]; exact ⟨v, A2, h1, rfl⟩⟩ hl rfl
    · rename_i hw
      obtain ⟨l, hl, rfl⟩ := map_some' h
      exact key _ _ l ⟨false, hw, by simp⟩ hl rfl
    · cases h

theorem maskOf_bit {masks : List Nat} {j : Nat} : ∀ {es : List Edge}, (maskOf masks es).testBit j = true → ∃ e ∈ es, Region.binds .any e = true ∧ (e.on = j ∨ (masks.getD e.on 0).testBit j = true)
  | [], h => by simp [maskOf] at h
  | e :: es, h => by
    simp only [maskOf] at h
    split at h
    · rename_i hb
      rw [Nat.testBit_or, Nat.testBit_or, Bool.or_eq_true, Bool.or_eq_true] at h
      rcases h with (h | h) | h
      · rw [Nat.testBit_two_pow] at h
        exact ⟨e, by simp, hb, .inl (by simpa using h)⟩
      · exact ⟨e, by simp, hb, .inr h⟩
      · obtain ⟨e', h1, h2⟩ := maskOf_bit h
        exact ⟨e', by simp [h1], h2⟩
    · obtain ⟨e', h1, h2⟩ := maskOf_bit h
      exact ⟨e', by simp [h1], h2⟩

theorem masksOk_get {masks : List Nat} : ∀ {k : Nat} {os : List Oper} {ms : List Nat}, masksOk masks k os ms = true → ∀ i o, os[i]? = some o →
    ms[i]? = some (maskOf masks o.after.toList) ∧ ∀ e ∈ o.after, Region.binds .any e = true → e.on < k + i
  | _, [], _, _, i, o, ho => by simp at ho
  | k, x :: os, [], h, i, o, ho => by simp [masksOk] at h
  | k, x :: os, m :: ms, h, i, o, ho => by
    simp only [masksOk, Bool.and_eq_true, beq_iff_eq, List.all_eq_true, Bool.or_eq_true, Bool.not_eq_true', decide_eq_true_eq] at h
    cases i with
    | zero =>
      simp only [List.getElem?_cons_zero, Option.some.injEq] at ho
      subst ho
      refine ⟨by simp [h.1.1], fun e he hb => ?_⟩
      rcases h.1.2 e (by simpa using he) with h' | h'
      · rw [hb] at h'; cases h'
      · simpa using h'
    | succ i =>
      simp only [List.getElem?_cons_succ] at ho ⊢
      obtain ⟨h1, h2⟩ := masksOk_get h.2 i o ho
      exact ⟨h1, fun e he hb => by have := h2 e he hb; omega⟩

/-- What stands before an instruction in the closed order, has been taken. -/
theorem closed_bit {masks : List Nat} {os : List Oper} (hm : masksOk masks 0 os masks = true) {X : Nat → Prop}
    (hX : ∀ i o, os[i]? = some o → X i → ∀ e ∈ o.after, Region.binds .any e = true → X e.on) :
    ∀ (i : Nat) (o : Oper), os[i]? = some o → (∀ e ∈ o.after, Region.binds .any e = true → X e.on) → ∀ j, (masks.getD i 0).testBit j = true → X j := by
  intro i
  induction i using Nat.strongRecOn with
  | _ i ih =>
    intro o ho hr j hj
    obtain ⟨h1, h2⟩ := masksOk_get hm i o ho
    rw [List.getD_eq_getElem?_getD, h1, Option.getD_some] at hj
    obtain ⟨e, he, hb, h⟩ := maskOf_bit hj
    have he' : e ∈ o.after := by simpa using he
    have hXe := hr e he' hb
    rcases h with rfl | h
    · exact hXe
    · have hlt := h2 e he' hb
      simp only [Nat.zero_add] at hlt
      have hlen : i < os.length := (List.getElem?_eq_some_iff.1 ho).1
      obtain ⟨o', ho'⟩ : ∃ o', os[e.on]? = some o' := ⟨os[e.on], by simp [show e.on < os.length from by omega]⟩
      exact ih e.on hlt o' ho' (hX _ _ ho' hXe) j h

theorem apart_spec {a b : List Nat} (h : apart a b = true) {d : Nat} (ha : d ∈ a) (hb : d ∈ b) : False := by
  simp only [apart, List.all_eq_true] at h
  have := h d ha
  simp only [Bool.not_eq_true', List.contains_eq_mem, decide_eq_false_iff_not] at this
  exact this hb

theorem pairsGood_get {masks : List Nat} {pairs : List (Nat × Nat)} {aos : List AOper} (h : pairsGood masks pairs aos = true) {i j : Nat} (hij : i < j) {x y : AOper} (hx : aos[i]? = some x) (hy : aos[j]? = some y) :
    pairGood masks pairs i j x y = true := by
  simp only [pairsGood, List.all_eq_true, List.mem_range] at h
  have := h j (List.getElem?_eq_some_iff.1 hy).1 i hij
  simpa [hx, hy] using this

theorem okOpers_get {ops : Array Oper} : ∀ {aos : List AOper} {os : List Oper}, okOpers P fm nt ops aos os = true → aos.length = os.length ∧ ∀ (i : Nat) (o : Oper), os[i]? = some o → ∃ ao, aos[i]? = some ao ∧ okOper P fm nt ops ao o = true
  | [], [], _ => ⟨rfl, fun i o h => by simp at h⟩
  | [], _ :: _, h => by simp [okOpers] at h
  | _ :: _, [], h => by simp [okOpers] at h
  | x :: aos, y :: os, h => by
    simp only [okOpers, Bool.and_eq_true] at h
    obtain ⟨h1, h2⟩ := okOpers_get h.2
    refine ⟨by simp [h1], fun i o ho => ?_⟩
    cases i with
    | zero => simp only [List.getElem?_cons_zero, Option.some.injEq] at ho ⊢; subst ho; exact ⟨x, rfl, h.1⟩
    | succ i => simpa using h2 i o (by simpa using ho)

/-- How far a region has come: which instructions have been taken, the frame, and the place in the text whose state it is in. -/
structure Mid (aos : List AOper) (os : List Oper) (T : Nat → Frame × ASt) (X : Nat → Prop) (B : Frame) (t : ASt) : Prop where
  closed : ∀ i o, os[i]? = some o → X i → ∀ e ∈ o.after, Region.binds .any e = true → X e.on
  frame : ∀ d i, i ≤ aos.length → (∀ k x, k < i → aos[k]? = some x → d ∈ x.writes → X k) → (∀ k x, i ≤ k → aos[k]? = some x → d ∈ x.writes → ¬X k) → B.get d = (T i).1.get d
  state : ∃ b, b ≤ aos.length ∧ (∀ k x, k < b → aos[k]? = some x → x.op.state = true → X k) ∧ (∀ k x, b ≤ k → aos[k]? = some x → x.op.state = true → ¬X k) ∧ t = (T b).2

variable {aos : List AOper} {os : List Oper} {T : Nat → Frame × ASt} {masks : List Nat} {pairs : List (Nat × Nat)}

theorem calm_between (hT : ∀ i o, aos[i]? = some o → OperStep call o (T i).1 (T i).2 (T (i + 1)).1 (T (i + 1)).2) {a c : Nat} (hac : a ≤ c) (hc : c ≤ aos.length) (hn : ∀ k x, a ≤ k → k < c → aos[k]? = some x → x.op.state = false) :
    (T c).2 = (T a).2 := by
  induction hac with
  | refl => rfl
  | @step c hac ih =>
    have hac : a ≤ c := hac
    have hlt : c < aos.length := by omega
    have hx : aos[c]? = some aos[c] := by simp [hlt]
    have h1 := (hT c _ hx).plain (t := (T c).2) (hn c _ hac (by omega) hx) (.inr ?_)
    · rw [h1.1]; exact ih (by omega) (fun k x h1 h2 => hn k x h1 (by omega))
    · cases aos[c].op <;> simp [ReadsEq]

theorem putless (hT : ∀ i o, aos[i]? = some o → OperStep call o (T i).1 (T i).2 (T (i + 1)).1 (T (i + 1)).2) {d a c : Nat} (hac : a ≤ c) (hc : c ≤ aos.length) (hn : ∀ k x, a ≤ k → k < c → aos[k]? = some x → d ∉ x.writes) :
    (T c).1.get d = (T a).1.get d := by
  induction hac with
  | refl => rfl
  | @step c hac ih =>
    have hac : a ≤ c := hac
    have hlt : c < aos.length := by omega
    have hx : aos[c]? = some aos[c] := by simp [hlt]
    obtain ⟨_, _, _, h3, _⟩ := (hT c _ hx).congr (B := (T c).1) (fun _ _ => rfl)
    rw [h3 d (hn c _ hac (by omega) hx)]
    exact ih (by omega) (fun k x h1 h2 => hn k x h1 (by omega))

theorem mid_step (hlen : aos.length = os.length) (hT : ∀ i o, aos[i]? = some o → OperStep call o (T i).1 (T i).2 (T (i + 1)).1 (T (i + 1)).2) (hm : masksOk masks 0 os masks = true) (hp : pairsGood masks pairs aos = true)
    (hpairs : ∀ j l o, (j, l) ∈ pairs → aos[l]? = some o → wanted (T l).1 o.guard = some false ∨ ReadsEq o.op (T l).1 (T j).2 (T (j + 1)).2)
    {X : Nat → Prop} (hM : Mid aos os T X B t) {i : Nat} {o : Oper} {x : AOper} (ho : os[i]? = some o) (hx : aos[i]? = some x) (hi : ¬X i) (hr : ∀ e ∈ o.after, Region.binds .any e = true → X e.on) :
    ∃ B' t', OperStep call x B t B' t' ∧ Mid aos os T (fun k => X k ∨ k = i) B' t' := by
  have hil : i < aos.length := (List.getElem?_eq_some_iff.1 hx).1
  -- whoever is on the wrong side stands in no order with it
  have hlow : ∀ k y, k < i → aos[k]? = some y → ¬X k → pairGood masks pairs k i y x = true ∧ (masks.getD i 0).testBit k = false := by
    intro k y hk hy hX
    refine ⟨pairsGood_get hp hk hy hx, ?_⟩
    cases hb : (masks.getD i 0).testBit k
    · rfl
    · exact absurd (closed_bit hm hM.closed i o ho hr k hb) hX
  have hhigh : ∀ k y, i < k → aos[k]? = some y → X k → pairGood masks pairs i k x y = true ∧ (masks.getD k 0).testBit i = false := by
    intro k y hk hy hX
    refine ⟨pairsGood_get hp hk hx hy, ?_⟩
    cases hb : (masks.getD k 0).testBit i
    · rfl
    · have hkl : k < os.length := by rw [← hlen]; exact (List.getElem?_eq_some_iff.1 hy).1
      have hok : os[k]? = some os[k] := by simp [hkl]
      exact absurd (closed_bit hm hM.closed k _ hok (hM.closed k _ hok hX) i hb) hi
  have hlow' : ∀ k y, k < i → aos[k]? = some y → ¬X k → (apart y.writes x.reads = true ∧ apart y.writes x.writes = true ∧ apart y.reads x.writes = true ∧ (y.op.state && x.op.state) = false ∧
      ((y.op.state && x.op.looks) = false ∨ (k, i) ∈ pairs) ∧ ((y.op.looks && x.op.state) = false ∨ (i, k) ∈ pairs)) := by
    intro k y hk hy hX
    obtain ⟨h1, h2⟩ := hlow k y hk hy hX
    simp only [pairGood, h2, Bool.false_or, Bool.and_eq_true, Bool.or_eq_true, Bool.not_eq_true', List.contains_eq_mem, decide_eq_true_eq] at h1
    exact ⟨h1.1.1.1.1.1, h1.1.1.1.1.2, h1.1.1.1.2, h1.1.1.2, h1.1.2, h1.2⟩
  have hhigh' : ∀ k y, i < k → aos[k]? = some y → X k → (apart x.writes y.reads = true ∧ apart x.writes y.writes = true ∧ apart x.reads y.writes = true ∧ (x.op.state && y.op.state) = false ∧
      ((x.op.state && y.op.looks) = false ∨ (i, k) ∈ pairs) ∧ ((x.op.looks && y.op.state) = false ∨ (k, i) ∈ pairs)) := by
    intro k y hk hy hX
    obtain ⟨h1, h2⟩ := hhigh k y hk hy hX
    simp only [pairGood, h2, Bool.false_or, Bool.and_eq_true, Bool.or_eq_true, Bool.not_eq_true', List.contains_eq_mem, decide_eq_true_eq] at h1
    exact ⟨h1.1.1.1.1.1, h1.1.1.1.1.2, h1.1.1.1.2, h1.1.1.2, h1.1.2, h1.2⟩
  have writers : ∀ d, (d ∈ x.reads ∨ d ∈ x.writes) → (∀ k y, k < i → aos[k]? = some y → d ∈ y.writes → X k) ∧ (∀ k y, i ≤ k → aos[k]? = some y → d ∈ y.writes → ¬X k) := by
    intro d hd
    refine ⟨fun k y hk hy hdy => Classical.byContradiction fun hX => ?_, fun k y hk hy hdy hX => ?_⟩
    · obtain ⟨h1, h2, _⟩ := hlow' k y hk hy hX
      rcases hd with hd | hd
      · exact apart_spec h1 hdy hd
      · exact apart_spec h2 hdy hd
    · by_cases e : k = i
      · subst e; exact hi hX
      · obtain ⟨h1, h2, h3, _⟩ := hhigh' k y (by omega) hy hX
        rcases hd with hd | hd
        · exact apart_spec h3 hd hdy
        · exact apart_spec h2 hd hdy
  have hget : ∀ d, (d ∈ x.reads ∨ d ∈ x.writes) → (T i).1.get d = B.get d := fun d hd => (hM.frame d i (by omega) (writers d hd).1 (writers d hd).2).symm
  obtain ⟨b, hb, hb1, hb2, hb3⟩ := hM.state
  -- the step in the state it is in
  have hstep : ∃ t', OperStep call x (T i).1 t (T (i + 1)).1 t' ∧ (x.op.state = true → t' = (T (i + 1)).2) ∧ (x.op.state = false → t' = t) := by
    cases hs : x.op.state with
    | true =>
      have hbi : (T b).2 = (T i).2 := by
        rcases Nat.le_total b i with h | h
        · refine (calm_between hT h (by omega) (fun k y h1 h2 hy => ?_)).symm
          cases hys : y.op.state
          · rfl
          · have := (hlow' k y h2 hy (hb2 k y h1 hy hys)).2.2.2.1
            simp [hys, hs] at this
        · refine calm_between hT h hb (fun k y h1 h2 hy => ?_)
          cases hys : y.op.state
          · rfl
          · have hX := hb1 k y h2 hy hys
            by_cases e : k = i
            · subst e; exact absurd hX hi
            · have := (hhigh' k y (by omega) hy hX).2.2.2.1
              simp [hys, hs] at this
      refine ⟨(T (i + 1)).2, ?_, fun _ => rfl, fun h => by cases h⟩
      rw [hb3, hbi]
      exact hT i x hx
    | false =>
      have hread : wanted (T i).1 x.guard = some false ∨ ReadsEq x.op (T i).1 (T i).2 t := by
        by_cases hw : wanted (T i).1 x.guard = some false
        · exact .inl hw
        · right
          cases hl : x.op.looks
          case false => cases hxo : x.op <;> simp only [ReadsEq] <;> (rw [hxo] at hl; simp [AOp.looks] at hl)
          -- along the state instructions between
          have one : ∀ k y, aos[k]? = some y → (y.op.state = true → (k, i) ∈ pairs) → ReadsEq x.op (T i).1 (T k).2 (T (k + 1)).2 := by
            intro k y hy hk
            cases hys : y.op.state with
            | true => exact (hpairs k i x (hk hys) hx).resolve_left hw
            | false =>
              have := calm_between hT (Nat.le_succ k) (by have := (List.getElem?_eq_some_iff.1 hy).1; omega) (fun k' y' h1 h2 hy' => by
                obtain rfl : k' = k := by omega
                rw [hy] at hy'; cases hy'; exact hys)
              rw [Nat.succ_eq_add_one] at this
              rw [this]
              cases x.op <;> simp [ReadsEq]
          have chain : ∀ a c, a ≤ c → c ≤ aos.length → (∀ k y, a ≤ k → k < c → aos[k]? = some y → y.op.state = true → (k, i) ∈ pairs) → ReadsEq x.op (T i).1 (T a).2 (T c).2 := by
            intro a c hac
            induction hac with
            | refl => intro _ _; cases x.op <;> simp [ReadsEq]
            | @step c hac ih =>
              intro hc h
              have hac : a ≤ c := hac
              have hlt : c < aos.length := by omega
              have h1 := ih (by omega) (fun k y h1 h2 => h k y h1 (by omega))
              have h2 := one c aos[c] (by simp [hlt]) (h c aos[c] hac (by omega) (by simp [hlt]))
              cases hxo : x.op <;> rw [hxo] at h1 h2 <;> simp only [ReadsEq] at h1 h2 ⊢
              · exact h1.trans h2
              · exact h1.trans h2
          have symm : ∀ a c : ASt, ReadsEq x.op (T i).1 a c → ReadsEq x.op (T i).1 c a := by
            intro a c h
            cases hxo : x.op <;> rw [hxo] at h <;> simp only [ReadsEq] at h ⊢
            · exact h.symm
            · exact h.symm
          rw [hb3]
          rcases Nat.le_total b i with h | h
          · refine symm _ _ (chain b i h (by omega) (fun k y h1 h2 hy hys => ?_))
            have := (hlow' k y h2 hy (hb2 k y h1 hy hys)).2.2.2.2.1
            rcases this with h | h
            · simp [hys, hl] at h
            · exact h
          · refine chain i b h hb (fun k y h1 h2 hy hys => ?_)
            have hX := hb1 k y h2 hy hys
            by_cases e : k = i
            · subst e; exact absurd hX hi
            · have := (hhigh' k y (by omega) hy hX).2.2.2.2.2
              rcases this with h | h
              · simp [hys, hl] at h
              · exact h
      obtain ⟨h1, h2⟩ := (hT i x hx).plain hs hread
      exact ⟨t, h2, fun h => by (cases h), fun _ => rfl⟩
  obtain ⟨t', hst, hs1, hs2⟩ := hstep
  obtain ⟨B', h1, h2, h3, h4⟩ := hst.congr (B := B) (fun d hd => hget d (.inl hd))
  refine ⟨B', t', h1, ⟨?_, ?_, ?_⟩⟩
  · intro k ok hok hk e he hbn
    rcases hk with hk | rfl
    · exact .inl (hM.closed k ok hok hk e he hbn)
    · rw [ho] at hok; cases hok
      exact .inl (hr e he hbn)
  · intro d i' hi' hw1 hw2
    by_cases hd : d ∈ x.writes
    · have hlt : i < i' := by
        rcases Nat.lt_or_ge i i' with h | h
        · exact h
        · exact absurd (.inr rfl) (hw2 i x h hx hd)
      rw [← h2 d hd (hget d (.inr hd))]
      refine (putless hT (Nat.succ_le_of_lt hlt) hi' (fun k y hk1 hk2 hy hdy => ?_)).symm
      rcases hw1 k y hk2 hy hdy with h | h
      · exact (writers d (.inr hd)).2 k y (by omega) hy hdy h
      · omega
    · rw [h4 d hd]
      refine hM.frame d i' hi' (fun k y hk hy hdy => ?_) (fun k y hk hy hdy hX => hw2 k y hk hy hdy (.inl hX))
      rcases hw1 k y hk hy hdy with h | h
      · exact h
      · subst h; rw [hx] at hy; cases hy; exact absurd hdy hd
  · cases hs : x.op.state with
    | false =>
      refine ⟨b, hb, fun k y hk hy hys => .inl (hb1 k y hk hy hys), fun k y hk hy hys h => ?_, by rw [hs2 hs, hb3]⟩
      rcases h with h | h
      · exact hb2 k y hk hy hys h
      · subst h; rw [hx] at hy; cases hy; rw [hs] at hys; cases hys
    | true =>
      refine ⟨i + 1, by omega, fun k y hk hy hys => ?_, fun k y hk hy hys h => ?_, hs1 hs⟩
      · by_cases e : k = i
        · exact .inr e
        · refine .inl (Classical.byContradiction fun hX => ?_)
          have := (hlow' k y (by omega) hy hX).2.2.2.1
          simp [hys, hs] at this
      · rcases h with h | h
        · have := (hhigh' k y (by omega) hy h).2.2.2.1
          simp [hys, hs] at this
        · omega

end
end Go.Proofs.YtdhgdpokdhjanaaGreat.Abs
