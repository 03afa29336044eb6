/- Words: the lexer's and the reference's tests of names and numbers, by what they answer. -/
import Derived.Test.YtdhgdpokdhjanaaGreatMX10
set_option linter.unusedSimpArgs false
set_option linter.unusedVariables false
namespace Go.Proofs.YtdhgdpokdhjanaaGreat.Abs
open Go

/-! ### What one configuration answers, the greater one answers -/

theorem upto12 : ∀ k, (∀ f args s r, (upto C1 k).1 f args s = some r → (upto C2 k).1 f args s = some r) ∧ ∀ b keep A s r, (upto C1 k).2 b keep A s = some r → (upto C2 k).2 b keep A s = some r
  | 0 => ⟨fun _ _ _ _ h => (by cases h), fun _ _ _ _ _ h => (by cases h)⟩
  | k + 1 => by
    obtain ⟨h1, h2⟩ := upto12 k
    refine ⟨fun f args s r h => ?_, fun b keep A s r h => stepLoop_mono h1 h2 b keep A s r h⟩
    have h : stepCall C1 (upto C1 k).1 (upto C1 k).2 f args s = some r := h
    show stepCall C2 (upto C2 k).1 (upto C2 k).2 f args s = some r
    by_cases hf : f = 384
    · subst hf
      simp only [stepCall] at h
      have e1 : C1.ext 384 = none := rfl
      have e2 : C1.funcs 384 = none := rfl
      rw [e1] at h
      simp only [e2] at h
      cases h
    · have e1 : C2.ext f = C1.ext f := by
        simp only [C2]
        try rfl
      have e2 : C2.funcs f = C1.funcs f := rfl
      have h := stepCall_mono C1 h1 h2 f args s r h
      simp only [stepCall, e1, e2] at h ⊢
      exact h
theorem Call12 {f : Nat} {args : List AVal} {s : ASt} {r : AVal × ASt} (h : Call C1 f args s = some r) : Call C2 f args s = some r := by
  obtain ⟨k, hk⟩ := of_Call C1 h
  exact Call_of C2 ((upto12 k).1 f args s r hk)

theorem run1_of {f : Nat} {af : AFunc} (hx : C1.ext f = none) (hf : C1.funcs f = some af) (args : List AVal) (s : ASt) : Call C1 f args s = runBody (Call C1) (Loop C1) af args s := by
  rw [Call_eq]
  simp only [stepCall, hx, hf]

/-! ### Bytes -/

def letterB (c : UInt8) : Bool := decide (97 ≤ c.toNat ∧ c.toNat ≤ 122)
def digitB (c : UInt8) : Bool := decide (48 ≤ c.toNat ∧ c.toNat ≤ 57)
def nameB (c : UInt8) : Bool := letterB c || digitB c || decide (c.toNat = 95)
def kws : List (List UInt8) := [[114, 101, 99, 111, 114, 100], [112, 114, 111, 99], [118, 97, 114], [105, 102], [101, 108, 115, 101], [119, 104, 105, 108, 101], [102, 111, 114], [116, 111], [114, 101, 116, 117, 114, 110], [97, 115, 115, 101, 114, 116], [97, 110, 100], [111, 114], [110, 111, 116], [116, 114, 117, 101], [102, 97, 108, 115, 101], [105, 110, 116], [98, 111, 111, 108], [108, 101, 110]]

theorem range_call {f : Nat} {af : AFunc} {lo hi : Int} (hx : C1.ext f = none) (hf : C1.funcs f = some af)
    (haf : af = ⟨1, .seq (.region none [⟨some 2, .mov (.val (.bool false)), none⟩] [0]) (.seq (.region none [⟨some 3, .mov (.tmp 0), none⟩,
  ⟨some 4, .bin .geq .num (.tmp 3) (.val (.int .u8 lo)), none⟩,
  ⟨some 5, .mov (.tmp 4), none⟩,
  ⟨some 6, .mov (.tmp 0), some (5, true)⟩,
  ⟨some 7, .bin .leq .num (.tmp 6) (.val (.int .u8 hi)), some (5, true)⟩,
  ⟨some 8, .pick (.tmp 5) (.tmp 7) (.val (.bool false)), none⟩,
  ⟨some 2, .mov (.tmp 8), none⟩] [2]) (.ret)), [.slot 2], false⟩) (c : Int) (s : ASt) : Call C1 f [.int .u8 c] s = some (.bool (decide (lo ≤ c ∧ c ≤ hi)), s) := by
  rw [run1_of hx hf, haf]
  by_cases h1 : lo ≤ c
  · by_cases h2 : c ≤ hi
    · simp [h1, h2, ss, runBody, exec, exOps, exDraw, exTrace, wanted, aop, Opd.ev, Opd.taken, Frame.get, abin, aun, cmpInt, eqOp, Frame.putO, Frame.put, Frame.keep, params, kid5, AVal.known, AVal.cells, ASt.push, loadAt, cut, mk, ASt.get, getL, results, result, ASt.trunc, underL, AVal.under]
    · simp [h1, h2, ss, runBody, exec, exOps, exDraw, exTrace, wanted, aop, Opd.ev, Opd.taken, Frame.get, abin, aun, cmpInt, eqOp, Frame.putO, Frame.put, Frame.keep, params, kid5, AVal.known, AVal.cells, ASt.push, loadAt, cut, mk, ASt.get, getL, results, result, ASt.trunc, underL, AVal.under]
  · simp [h1, ss, runBody, exec, exOps, exDraw, exTrace, wanted, aop, Opd.ev, Opd.taken, Frame.get, abin, aun, cmpInt, eqOp, Frame.putO, Frame.put, Frame.keep, params, kid5, AVal.known, AVal.cells, ASt.push, loadAt, cut, mk, ASt.get, getL, results, result, ASt.trunc, underL, AVal.under]

theorem letter_call (c : UInt8) (s : ASt) : Call C1 304 [.int .u8 c.toNat] s = some (.bool (letterB c), s) := by
  rw [range_call (lo := 97) (hi := 122) rfl rfl rfl]
  unfold letterB
  simp only [Option.some.injEq, Prod.mk.injEq, AVal.bool.injEq, and_true, decide_eq_decide]
  omega
theorem digit_call (c : UInt8) (s : ASt) : Call C1 301 [.int .u8 c.toNat] s = some (.bool (digitB c), s) := by
  rw [range_call (lo := 48) (hi := 57) rfl rfl rfl]
  unfold digitB
  simp only [Option.some.injEq, Prod.mk.injEq, AVal.bool.injEq, and_true, decide_eq_decide]
  omega
theorem letter2_call (c : UInt8) (s : ASt) : Call C1 154 [.int .u8 c.toNat] s = some (.bool (letterB c), s) := by
  rw [range_call (lo := 97) (hi := 122) rfl rfl rfl]
  unfold letterB
  simp only [Option.some.injEq, Prod.mk.injEq, AVal.bool.injEq, and_true, decide_eq_decide]
  omega
theorem digit2_call (c : UInt8) (s : ASt) : Call C1 152 [.int .u8 c.toNat] s = some (.bool (digitB c), s) := by
  rw [range_call (lo := 48) (hi := 57) rfl rfl rfl]
  unfold digitB
  simp only [Option.some.injEq, Prod.mk.injEq, AVal.bool.injEq, and_true, decide_eq_decide]
  omega
theorem name1_call (c : UInt8) (s : ASt) : Call C1 296 [.int .u8 c.toNat] s = some (.bool (nameB c), s) := by
  rw [run1_of (af := f296) rfl rfl]
  have h1 := letter_call c ⟨0, []⟩
  have h2 := digit_call c ⟨0, []⟩
  have h3 : (decide ((c.toNat : Int) = 95)) = decide (c.toNat = 95) := by
    rw [decide_eq_decide]; omega
  unfold nameB
  cases hl : letterB c
  · cases hd : digitB c
    · rw [hl] at h1; rw [hd] at h2
      simp [f296, h1, h2, h3, ss, runBody, exec, exOps, exDraw, exTrace, wanted, aop, Opd.ev, Opd.taken, Frame.get, abin, aun, cmpInt, eqOp, Frame.putO, Frame.put, Frame.keep, params, kid5, AVal.known, AVal.cells, ASt.push, loadAt, cut, mk, ASt.get, getL, results, result, ASt.trunc, underL, AVal.under]
    · rw [hl] at h1; rw [hd] at h2
      simp [f296, h1, h2, ss, runBody, exec, exOps, exDraw, exTrace, wanted, aop, Opd.ev, Opd.taken, Frame.get, abin, aun, cmpInt, eqOp, Frame.putO, Frame.put, Frame.keep, params, kid5, AVal.known, AVal.cells, ASt.push, loadAt, cut, mk, ASt.get, getL, results, result, ASt.trunc, underL, AVal.under]
  · rw [hl] at h1
    simp [f296, h1, ss, runBody, exec, exOps, exDraw, exTrace, wanted, aop, Opd.ev, Opd.taken, Frame.get, abin, aun, cmpInt, eqOp, Frame.putO, Frame.put, Frame.keep, params, kid5, AVal.known, AVal.cells, ASt.push, loadAt, cut, mk, ASt.get, getL, results, result, ASt.trunc, underL, AVal.under]

/-! ### lexer.run -/

def runLoop : ACode := match f305.code with
  | .seq _ (.seq (.block _ (.loop b _)) _) => b
  | _ => .bad

/-- How many of them at the head. -/
def lead (p : UInt8 → Bool) : List UInt8 → Nat
  | [] => 0
  | c :: r => if p c then lead p r + 1 else 0

theorem st_fn (f : Nat) (a b : List AVal) : (AVal.fn f a b).strip = .fn f a b := rfl
theorem run_loop {f : Nat} {p : UInt8 → Bool} (hp : ∀ (c : UInt8) (s : ASt), Call C1 f [.int .u8 c.toNat] s = some (.bool (p c), s)) (t : List UInt8) (ht : t.length ≤ limit) (s : ASt) : ∀ (r : List UInt8) (i : Nat), t.drop i = r → i ≤ t.length →
    ∃ A, Loop C1 runLoop [0, 1, 2] [(0, .str t), (1, .int .i64 i), (2, .fn f [] [])] s = some (.exit 0, (0, .str t) :: (1, .int .i64 ((i + lead p r : Nat) : Int)) :: A, s)
  | [], i, h, hi => by
    have : i = t.length := by
      have := congrArg List.length h
      simp only [List.length_drop, List.length_nil] at this
      omega
    subst this
    refine ⟨[(2, .fn f [] []), (17, .bool false)], ?_⟩
    rw [Loop_eq]
    simp [stepLoop, runLoop, f305, lead, st_fn, ss, runBody, exec, exOps, exDraw, exTrace, wanted, aop, Opd.ev, Opd.taken, Frame.get, abin, aun, cmpInt, eqOp, Frame.putO, Frame.put, Frame.keep, params, kid5, AVal.known, AVal.cells, ASt.push, loadAt, cut, mk, ASt.get, getL, results, result, ASt.trunc, underL, AVal.under]
  | c :: r, i, h, hi => by
    have hlt : i < t.length := by
      have := congrArg List.length h
      simp only [List.length_drop, List.length_cons] at this
      omega
    have hget : t[i]? = some c := by
      have : (t.drop i)[0]? = some c := by rw [h]; rfl
      simpa using this
    have hget2 : t[i]'hlt = c := by
      have h0 := List.getElem?_eq_getElem hlt
      rw [hget] at h0
      exact (Option.some.inj h0).symm
    have hw : IntKind.wrap .i64 ((i : Int) + 1) = ((i + 1 : Nat) : Int) := by
      rw [wrap_i64 (by omega) (by unfold limit at ht; omega)]; rfl
    have hc := hp c s
    cases hpc : p c
    · rw [hpc] at hc
      refine ⟨[(2, .fn f [] []), (17, .bool false)], ?_⟩
      rw [Loop_eq]
      simp [stepLoop, runLoop, f305, lead, st_fn, hpc, hlt, hget2, hc, ss, runBody, exec, exOps, exDraw, exTrace, wanted, aop, Opd.ev, Opd.taken, Frame.get, abin, aun, cmpInt, eqOp, Frame.putO, Frame.put, Frame.keep, params, kid5, AVal.known, AVal.cells, ASt.push, loadAt, cut, mk, ASt.get, getL, results, result, ASt.trunc, underL, AVal.under]
    · rw [hpc] at hc
      obtain ⟨A, ih⟩ := run_loop hp t ht s r (i + 1) (by rw [← List.drop_drop, h]; rfl) (by omega)
      refine ⟨A, ?_⟩
      have hle : i + lead p (c :: r) = i + 1 + lead p r := by simp only [lead, hpc, if_true]; omega
      rw [hle, ← ih]
      conv => lhs; rw [Loop_eq]
      simp [stepLoop, runLoop, f305, st_fn, hlt, hget2, hc, hw, ss, runBody, exec, exOps, exDraw, exTrace, wanted, aop, Opd.ev, Opd.taken, Frame.get, abin, aun, cmpInt, eqOp, Frame.putO, Frame.put, Frame.keep, params, kid5, AVal.known, AVal.cells, ASt.push, loadAt, cut, mk, ASt.get, getL, results, result, ASt.trunc, underL, AVal.under]

theorem run_call305 {f : Nat} {p : UInt8 → Bool} (hp : ∀ (c : UInt8) (s : ASt), Call C1 f [.int .u8 c.toNat] s = some (.bool (p c), s)) (t : List UInt8) (ht : t.length ≤ limit) (s : ASt) :
    Call C1 305 [.str t, .int .i64 0, .fn f [] []] s = some (.int .i64 (lead p t), s) := by
  rw [run1_of (af := f305) rfl rfl]
  obtain ⟨A, hL⟩ := run_loop hp t ht s t 0 rfl (Nat.zero_le _)
  simp [runLoop, f305] at hL
  simp [f305, hL, st_fn, ss, runBody, exec, exOps, exDraw, exTrace, wanted, aop, Opd.ev, Opd.taken, Frame.get, abin, aun, cmpInt, eqOp, Frame.putO, Frame.put, Frame.keep, params, kid5, AVal.known, AVal.cells, ASt.push, loadAt, cut, mk, ASt.get, getL, results, result, ASt.trunc, underL, AVal.under]

/-! ### Keywords -/

def kwV : AVal := .imap (kws.map .str) (kws.map fun _ => .bool true)
theorem kw_call : Call C1 303 [] ⟨0, []⟩ = some (kwV, ⟨0, []⟩) := Call_of C1 (k := 10) (by kernel_rfl)
theorem find_kw (t : List UInt8) : ∀ l : List (List UInt8), Abs.find .str (.str t) (l.map .str) (l.map fun _ => .bool true) = some (if l.contains t then some (.bool true) else none)
  | [] => rfl
  | x :: l => by
    have ih := find_kw t l
    simp only [List.map_cons, Abs.find, keq]
    by_cases h : t = x
    · subst h; simp
    · have : (t == x) = false := by simpa using h
      rw [this]
      simp only [List.contains_cons, this, Bool.false_or]
      exact ih
theorem keyword_call (t : List UInt8) (s : ASt) : Call C1 294 [.str t] s = some (.bool (kws.contains t), s) := by
  rw [run1_of (af := f294) rfl rfl]
  have hf := find_kw t kws
  have hk := kw_call
  simp only [kwV] at hk
  generalize kws.map AVal.str = ks at hf hk
  generalize (kws.map fun _ => AVal.bool true) = vs at hf hk
  cases h : kws.contains t
  · rw [h] at hf
    simp only [Bool.false_eq_true, if_false] at hf
    simp [f294, hk, entries, hf, ss, runBody, exec, exOps, exDraw, exTrace, wanted, aop, Opd.ev, Opd.taken, Frame.get, abin, aun, cmpInt, eqOp, Frame.putO, Frame.put, Frame.keep, params, kid5, AVal.known, AVal.cells, ASt.push, loadAt, cut, mk, ASt.get, getL, results, result, ASt.trunc, underL, AVal.under]
  · rw [h] at hf
    simp only [if_true] at hf
    simp [f294, hk, entries, hf, ss, runBody, exec, exOps, exDraw, exTrace, wanted, aop, Opd.ev, Opd.taken, Frame.get, abin, aun, cmpInt, eqOp, Frame.putO, Frame.put, Frame.keep, params, kid5, AVal.known, AVal.cells, ASt.push, loadAt, cut, mk, ASt.get, getL, results, result, ASt.trunc, underL, AVal.under]

/-! ### Names -/

def okName (t : List UInt8) : Bool := match t with
  | [] => false
  | c :: _ => decide (t.length ≤ 16) && letterB c && !kws.contains t && decide (lead nameB t = t.length)

theorem name_call (t : List UInt8) (ht : t.length ≤ limit) (s : ASt) : Call C1 295 [.str t] s = some (.bool (okName t), s) := by
  rw [run1_of (af := f295) rfl rfl]
  cases t with
  | nil => simp [f295, okName, ss, runBody, exec, exOps, exDraw, exTrace, wanted, aop, Opd.ev, Opd.taken, Frame.get, abin, aun, cmpInt, eqOp, Frame.putO, Frame.put, Frame.keep, params, kid5, AVal.known, AVal.cells, ASt.push, loadAt, cut, mk, ASt.get, getL, results, result, ASt.trunc, underL, AVal.under]
  | cons c r =>
    by_cases h1 : 16 < (c :: r).length
    · have h2 : (16 : Int) < ((c :: r).length : Int) := by omega
      have h3 : ¬ (c :: r).length ≤ 16 := by omega
      simp only [okName, h3, decide_false, Bool.false_and]
      generalize hl : (c :: r).length = n at h2
      simp [f295, hl, h2, ss, runBody, exec, exOps, exDraw, exTrace, wanted, aop, Opd.ev, Opd.taken, Frame.get, abin, aun, cmpInt, eqOp, Frame.putO, Frame.put, Frame.keep, params, kid5, AVal.known, AVal.cells, ASt.push, loadAt, cut, mk, ASt.get, getL, results, result, ASt.trunc, underL, AVal.under]
    have h2 : ¬ (16 : Int) < ((c :: r).length : Int) := by omega
    have h3 : (c :: r).length ≤ 16 := by omega
    have hc := letter_call c ⟨0, []⟩
    have hk := keyword_call (c :: r) ⟨0, []⟩
    have hr := run_call305 name1_call (c :: r) ht s
    have he : (decide (((lead nameB (c :: r) : Nat) : Int) = (((c :: r).length : Nat) : Int))) = decide (lead nameB (c :: r) = (c :: r).length) := by
      rw [decide_eq_decide]; omega
    unfold okName
    simp only [h3, decide_true, Bool.true_and]
    generalize kws.contains (c :: r) = kw at hk
    generalize lead nameB (c :: r) = ld at hr he
    have hg : (c :: r)[0]? = some c := rfl
    have hne : (c :: r).isEmpty = false := rfl
    have hne2 : ¬ (c :: r) = [] := by simp
    generalize hcr : c :: r = w at *
    cases hl : letterB c
    · rw [hl] at hc
      simp [f295, hne, hne2, h2, hg, hc, ss, runBody, exec, exOps, exDraw, exTrace, wanted, aop, Opd.ev, Opd.taken, Frame.get, abin, aun, cmpInt, eqOp, Frame.putO, Frame.put, Frame.keep, params, kid5, AVal.known, AVal.cells, ASt.push, loadAt, cut, mk, ASt.get, getL, results, result, ASt.trunc, underL, AVal.under]
    · rw [hl] at hc
      cases kw
      · simp [f295, hne, hne2, h2, hg, hc, hk, hr, he, ss, runBody, exec, exOps, exDraw, exTrace, wanted, aop, Opd.ev, Opd.taken, Frame.get, abin, aun, cmpInt, eqOp, Frame.putO, Frame.put, Frame.keep, params, kid5, AVal.known, AVal.cells, ASt.push, loadAt, cut, mk, ASt.get, getL, results, result, ASt.trunc, underL, AVal.under]
      · simp [f295, hne, hne2, h2, hg, hc, hk, ss, runBody, exec, exOps, exDraw, exTrace, wanted, aop, Opd.ev, Opd.taken, Frame.get, abin, aun, cmpInt, eqOp, Frame.putO, Frame.put, Frame.keep, params, kid5, AVal.known, AVal.cells, ASt.push, loadAt, cut, mk, ASt.get, getL, results, result, ASt.trunc, underL, AVal.under]

end Go.Proofs.YtdhgdpokdhjanaaGreat.Abs
