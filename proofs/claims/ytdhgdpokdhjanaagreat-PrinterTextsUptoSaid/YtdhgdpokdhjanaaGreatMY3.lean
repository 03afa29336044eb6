/- Numbers and the reference's names. -/
import Derived.Test.YtdhgdpokdhjanaaGreatY2
set_option linter.unusedSimpArgs false
set_option linter.unusedVariables false
namespace Go.Proofs.YtdhgdpokdhjanaaGreat.Abs
open Go

theorem lead_le (p : UInt8 → Bool) : ∀ t : List UInt8, lead p t ≤ t.length
  | [] => Nat.le_refl _
  | c :: r => by
    have := lead_le p r
    simp only [lead, List.length_cons]
    split <;> omega
theorem lead_all (p : UInt8 → Bool) : ∀ t : List UInt8, lead p t = t.length ↔ t.all p = true
  | [] => by simp [lead]
  | c :: r => by
    have ih := lead_all p r
    simp only [lead, List.length_cons, List.all_cons]
    cases h : p c
    · simp
    · simp only [if_true, Bool.true_and]
      rw [← ih]
      omega

def numB (t : List UInt8) : Bool := !t.isEmpty && (decide (t.length ≤ 9) && t.all digitB)
def okNum (t : List UInt8) : Bool := numB t && (t == [48] || !(t.head? == some 48))

theorem get_drop {t : List UInt8} {i : Nat} {c : UInt8} {r : List UInt8} (h : t.drop i = c :: r) : t[i]? = some c := by
  have : (t.drop i)[0]? = some c := by rw [h]; rfl
  simpa using this

/-! ### lexer.Number, tree.number -/

def num1Loop : ACode := match f297.code with
  | .seq _ (.seq _ (.seq _ (.seq (.seq _ (.block _ (.loop b _))) _))) => b
  | _ => .bad

theorem num1_loop (t : List UInt8) (ht : t.length ≤ limit) : ∀ (r : List UInt8) (i : Nat) (acc : Int), t.drop i = r → i ≤ t.length →
    ∃ v, Loop C1 num1Loop [4, 22, 23, 24] [(4, .int .i64 acc), (22, .sl (byteCells t) t.length .none), (23, .int .i64 t.length), (24, .int .i64 i)] ⟨0, []⟩ =
      some (.exit 0, [(4, .int .i64 v), (22, .sl (byteCells t) t.length .none), (23, .int .i64 t.length), (24, .int .i64 t.length), (25, .bool false)], ⟨0, []⟩)
  | [], i, acc, h, hi => by
    have : i = t.length := by
      have := congrArg List.length h
      simp only [List.length_drop, List.length_nil] at this
      omega
    subst this
    refine ⟨acc, ?_⟩
    rw [Loop_eq]
    simp [stepLoop, num1Loop, f297, ss, runBody, exec, exOps, exDraw, exTrace, wanted, aop, Opd.ev, Opd.taken, Frame.get, abin, aun, cmpInt, eqOp, Frame.putO, Frame.put, Frame.keep, params, kid5, AVal.known, AVal.cells, ASt.push, loadAt, cut, mk, ASt.get, getL, results, result, ASt.trunc, underL, AVal.under]
  | c :: r, i, acc, h, hi => by
    have hlt : i < t.length := by
      have := congrArg List.length h
      simp only [List.length_drop, List.length_cons] at this
      omega
    have hcut : cut (byteCells t) i 1 = some [.int .u8 c.toNat] := cut_get (by
      unfold byteCells
      rw [List.getElem?_map, get_drop h]
      rfl)
    have hw : IntKind.wrap .i64 ((i : Int) + 1) = ((i + 1 : Nat) : Int) := by
      rw [wrap_i64 (by omega) (by unfold limit at ht; omega)]; rfl
    obtain ⟨v, ih⟩ := num1_loop t ht r (i + 1) (IntKind.wrap .i64 (IntKind.wrap .i64 (10 * acc) + IntKind.wrap .i64 (IntKind.wrap .u8 (c.toNat - 48)))) (by rw [← List.drop_drop, h]; rfl) (by omega)
    refine ⟨v, ?_⟩
    rw [← ih]
    clear ih
    conv => lhs; rw [Loop_eq]
    simp [stepLoop, num1Loop, f297, hlt, hcut, hw, aconv, ss, runBody, exec, exOps, exDraw, exTrace, wanted, aop, Opd.ev, Opd.taken, Frame.get, abin, aun, cmpInt, eqOp, Frame.putO, Frame.put, Frame.keep, params, kid5, AVal.known, AVal.cells, ASt.push, loadAt, mk, ASt.get, getL, results, result, ASt.trunc, underL, AVal.under]

theorem number_call (t : List UInt8) (ht : t.length ≤ limit) : ∃ v, Call C1 297 [.str t] ⟨0, []⟩ = some (.tup [.int .i64 v, .bool (numB t)], ⟨0, []⟩) := by
  rw [run1_of (af := f297) rfl rfl]
  by_cases h0 : t = []
  · subst h0
    exact ⟨0, by simp [f297, numB, ss, runBody, exec, exOps, exDraw, exTrace, wanted, aop, Opd.ev, Opd.taken, Frame.get, abin, aun, cmpInt, eqOp, Frame.putO, Frame.put, Frame.keep, params, kid5, AVal.known, AVal.cells, ASt.push, loadAt, cut, mk, ASt.get, getL, results, result, ASt.trunc, underL, AVal.under]⟩
  have he : t.isEmpty = false := by simpa using h0
  by_cases h1 : 9 < t.length
  · have h2 : (9 : Int) < (t.length : Int) := by omega
    have h3 : ¬ t.length ≤ 9 := by omega
    exact ⟨0, by simp [f297, numB, h0, he, h2, h3, ss, runBody, exec, exOps, exDraw, exTrace, wanted, aop, Opd.ev, Opd.taken, Frame.get, abin, aun, cmpInt, eqOp, Frame.putO, Frame.put, Frame.keep, params, kid5, AVal.known, AVal.cells, ASt.push, loadAt, cut, mk, ASt.get, getL, results, result, ASt.trunc, underL, AVal.under]⟩
  have h2 : ¬ (9 : Int) < (t.length : Int) := by omega
  have h3 : t.length ≤ 9 := by omega
  have hr := run_call305 digit_call t ht ⟨0, []⟩
  have hle := lead_le digitB t
  by_cases h4 : t.all digitB = true
  · have h5 := (lead_all digitB t).2 h4
    obtain ⟨v, hL⟩ := num1_loop t ht t 0 0 rfl (Nat.zero_le _)
    refine ⟨v, ?_⟩
    have hn : numB t = true := by simp only [numB, h3, h4, decide_true, Bool.and_true]; simpa using h0
    rw [hn]
    rw [h5] at hr
    simp [num1Loop, f297] at hL
    simp [f297, h0, he, h2, hr, aconv, ht, hL, ss, runBody, exec, exOps, exDraw, exTrace, wanted, aop, Opd.ev, Opd.taken, Frame.get, abin, aun, cmpInt, eqOp, Frame.putO, Frame.put, Frame.keep, params, kid5, AVal.known, AVal.cells, ASt.push, loadAt, cut, mk, ASt.get, getL, results, result, ASt.trunc, underL, AVal.under]
  · have h5 : lead digitB t < t.length := by
      have := mt (lead_all digitB t).1 h4
      omega
    have h6 : (lead digitB t : Int) < (t.length : Int) := by omega
    have h4 : t.all digitB = false := by simpa using h4
    have hn : numB t = false := by simp only [numB, h4, Bool.and_false]
    rw [hn]
    exact ⟨0, by simp [f297, h0, he, h2, hr, h6, ss, runBody, exec, exOps, exDraw, exTrace, wanted, aop, Opd.ev, Opd.taken, Frame.get, abin, aun, cmpInt, eqOp, Frame.putO, Frame.put, Frame.keep, params, kid5, AVal.known, AVal.cells, ASt.push, loadAt, cut, mk, ASt.get, getL, results, result, ASt.trunc, underL, AVal.under]⟩

theorem tnum_call (t : List UInt8) (ht : t.length ≤ limit) (s : ASt) : Call C1 378 [.str t] s = some (.bool (okNum t), s) := by
  rw [run1_of (af := f378) rfl rfl]
  obtain ⟨v, hc⟩ := number_call t ht
  unfold okNum
  cases hn : numB t
  · rw [hn] at hc
    simp [f378, hc, ss, runBody, exec, exOps, exDraw, exTrace, wanted, aop, Opd.ev, Opd.taken, Frame.get, abin, aun, cmpInt, eqOp, Frame.putO, Frame.put, Frame.keep, params, kid5, AVal.known, AVal.cells, ASt.push, loadAt, cut, mk, ASt.get, getL, results, result, ASt.trunc, underL, AVal.under]
  · rw [hn] at hc
    cases t with
    | nil => cases hn
    | cons c r =>
      by_cases h : c :: r = [48]
      · rw [h] at hc ⊢
        simp [f378, hc, ss, runBody, exec, exOps, exDraw, exTrace, wanted, aop, Opd.ev, Opd.taken, Frame.get, abin, aun, cmpInt, eqOp, Frame.putO, Frame.put, Frame.keep, params, kid5, AVal.known, AVal.cells, ASt.push, loadAt, cut, mk, ASt.get, getL, results, result, ASt.trunc, underL, AVal.under]
      · have hb : (c :: r == [48]) = false := by simpa using h
        have hg : (c :: r)[0]? = some c := rfl
        have hh : (c :: r).head? = some c := rfl
        have hq : (decide ((c.toNat : Int) = 48)) = (c == 48) := by
          rw [Bool.eq_iff_iff]
          simp only [decide_eq_true_eq, beq_iff_eq]
          constructor
          · intro hx
            apply UInt8.toNat_inj.1
            have : (48 : UInt8).toNat = 48 := rfl
            omega
          · intro hx
            subst hx
            rfl
        rw [hh]
        generalize c :: r = w at *
        simp [f378, hc, h, hb, hg, hq, ss, runBody, exec, exOps, exDraw, exTrace, wanted, aop, Opd.ev, Opd.taken, Frame.get, abin, aun, cmpInt, eqOp, Frame.putO, Frame.put, Frame.keep, params, kid5, AVal.known, AVal.cells, ASt.push, loadAt, cut, mk, ASt.get, getL, results, result, ASt.trunc, underL, AVal.under]

/-! ### The reference's Number, number -/

def num2Loop : ACode := match f145.code with
  | .seq _ (.seq _ (.seq _ (.seq (.seq _ (.block _ (.loop b _))) _))) => b
  | _ => .bad

theorem num2_loop (t : List UInt8) (ht : t.length ≤ limit) : ∀ (r : List UInt8) (i : Nat) (acc : Int), t.drop i = r → i ≤ t.length →
    if r.all digitB = true then ∃ v, Loop C2 num2Loop [0, 4, 5] [(0, .str t), (4, .int .i64 acc), (5, .int .i64 i)] ⟨0, []⟩ =
      some (.exit 0, [(0, .str t), (4, .int .i64 v), (5, .int .i64 t.length), (17, .bool false)], ⟨0, []⟩)
    else Loop C2 num2Loop [0, 4, 5] [(0, .str t), (4, .int .i64 acc), (5, .int .i64 i)] ⟨0, []⟩ = some (.ret, [(2, .int .i64 0), (3, .bool false)], ⟨0, []⟩)
  | [], i, acc, h, hi => by
    have : i = t.length := by
      have := congrArg List.length h
      simp only [List.length_drop, List.length_nil] at this
      omega
    subst this
    simp only [List.all_nil, if_true]
    refine ⟨acc, ?_⟩
    rw [Loop_eq]
    simp [stepLoop, num2Loop, f145, ss, runBody, exec, exOps, exDraw, exTrace, wanted, aop, Opd.ev, Opd.taken, Frame.get, abin, aun, cmpInt, eqOp, Frame.putO, Frame.put, Frame.keep, params, kid5, AVal.known, AVal.cells, ASt.push, loadAt, cut, mk, ASt.get, getL, results, result, ASt.trunc, underL, AVal.under]
  | c :: r, i, acc, h, hi => by
    have hlt : i < t.length := by
      have := congrArg List.length h
      simp only [List.length_drop, List.length_cons] at this
      omega
    have hget := get_drop h
    have hget2 : t[i]'hlt = c := by
      have h0 := List.getElem?_eq_getElem hlt
      rw [hget] at h0
      exact (Option.some.inj h0).symm
    have hw : IntKind.wrap .i64 ((i : Int) + 1) = ((i + 1 : Nat) : Int) := by
      rw [wrap_i64 (by omega) (by unfold limit at ht; omega)]; rfl
    have hc := Call12 (digit2_call c ⟨0, []⟩)
    have ih := num2_loop t ht r (i + 1) (IntKind.wrap .i64 (IntKind.wrap .i64 (10 * acc) + IntKind.wrap .i64 (IntKind.wrap .u8 (c.toNat - 48)))) (by rw [← List.drop_drop, h]; rfl) (by omega)
    rw [Loop_eq]
    cases hd : digitB c
    · rw [hd] at hc
      have hall : (c :: r).all digitB = false := by simp [hd]
      rw [hall]
      simp only [Bool.false_eq_true, if_false]
      simp [stepLoop, num2Loop, f145, hlt, hget2, hc, ss, runBody, exec, exOps, exDraw, exTrace, wanted, aop, Opd.ev, Opd.taken, Frame.get, abin, aun, cmpInt, eqOp, Frame.putO, Frame.put, Frame.keep, params, kid5, AVal.known, AVal.cells, ASt.push, loadAt, cut, mk, ASt.get, getL, results, result, ASt.trunc, underL, AVal.under]
    · rw [hd] at hc
      have hall : (c :: r).all digitB = r.all digitB := by simp [hd]
      rw [hall]
      split
      · rename_i hr
        rw [if_pos hr] at ih
        obtain ⟨v, ih⟩ := ih
        refine ⟨v, ?_⟩
        rw [← ih]
        simp [stepLoop, num2Loop, f145, hlt, hget2, hc, hw, aconv, ss, runBody, exec, exOps, exDraw, exTrace, wanted, aop, Opd.ev, Opd.taken, Frame.get, abin, aun, cmpInt, eqOp, Frame.putO, Frame.put, Frame.keep, params, kid5, AVal.known, AVal.cells, ASt.push, loadAt, cut, mk, ASt.get, getL, results, result, ASt.trunc, underL, AVal.under]
      · rename_i hr
        rw [if_neg hr] at ih
        rw [← ih]
        simp [stepLoop, num2Loop, f145, hlt, hget2, hc, hw, aconv, ss, runBody, exec, exOps, exDraw, exTrace, wanted, aop, Opd.ev, Opd.taken, Frame.get, abin, aun, cmpInt, eqOp, Frame.putO, Frame.put, Frame.keep, params, kid5, AVal.known, AVal.cells, ASt.push, loadAt, cut, mk, ASt.get, getL, results, result, ASt.trunc, underL, AVal.under]

theorem number2_call (t : List UInt8) (ht : t.length ≤ limit) : ∃ v, Call C2 145 [.str t] ⟨0, []⟩ = some (.tup [.int .i64 v, .bool (numB t)], ⟨0, []⟩) := by
  rw [run_of (af := f145) rfl rfl]
  by_cases h0 : t = []
  · subst h0
    exact ⟨0, by simp [f145, numB, ss, runBody, exec, exOps, exDraw, exTrace, wanted, aop, Opd.ev, Opd.taken, Frame.get, abin, aun, cmpInt, eqOp, Frame.putO, Frame.put, Frame.keep, params, kid5, AVal.known, AVal.cells, ASt.push, loadAt, cut, mk, ASt.get, getL, results, result, ASt.trunc, underL, AVal.under]⟩
  have h00 : ¬ ((t.length : Int) < 1) := by
    have := List.length_pos_iff.2 h0
    omega
  by_cases h1 : 9 < t.length
  · have h2 : (9 : Int) < (t.length : Int) := by omega
    have h3 : ¬ t.length ≤ 9 := by omega
    exact ⟨0, by simp [f145, numB, h0, h00, h2, h3, ss, runBody, exec, exOps, exDraw, exTrace, wanted, aop, Opd.ev, Opd.taken, Frame.get, abin, aun, cmpInt, eqOp, Frame.putO, Frame.put, Frame.keep, params, kid5, AVal.known, AVal.cells, ASt.push, loadAt, cut, mk, ASt.get, getL, results, result, ASt.trunc, underL, AVal.under]⟩
  have h2 : ¬ (9 : Int) < (t.length : Int) := by omega
  have h3 : t.length ≤ 9 := by omega
  have hL := num2_loop t ht t 0 0 rfl (Nat.zero_le _)
  split at hL
  · rename_i h4
    obtain ⟨v, hL⟩ := hL
    have hn : numB t = true := by simp only [numB, h3, h4, decide_true, Bool.and_true]; simpa using h0
    rw [hn]
    refine ⟨v, ?_⟩
    simp [num2Loop, f145] at hL
    simp [f145, h0, h00, h2, hL, ss, runBody, exec, exOps, exDraw, exTrace, wanted, aop, Opd.ev, Opd.taken, Frame.get, abin, aun, cmpInt, eqOp, Frame.putO, Frame.put, Frame.keep, params, kid5, AVal.known, AVal.cells, ASt.push, loadAt, cut, mk, ASt.get, getL, results, result, ASt.trunc, underL, AVal.under]
  · rename_i h4
    have h4 : t.all digitB = false := by simpa using h4
    have hn : numB t = false := by simp only [numB, h4, Bool.and_false]
    rw [hn]
    refine ⟨0, ?_⟩
    simp [num2Loop, f145] at hL
    simp [f145, h0, h00, h2, hL, ss, runBody, exec, exOps, exDraw, exTrace, wanted, aop, Opd.ev, Opd.taken, Frame.get, abin, aun, cmpInt, eqOp, Frame.putO, Frame.put, Frame.keep, params, kid5, AVal.known, AVal.cells, ASt.push, loadAt, cut, mk, ASt.get, getL, results, result, ASt.trunc, underL, AVal.under]

theorem tnum2_call (t : List UInt8) (ht : t.length ≤ limit) : Call C2 180 [.str t] ⟨0, []⟩ = some (.bool (okNum t), ⟨0, []⟩) := by
  rw [run_of (af := f180) rfl rfl]
  obtain ⟨v, hc⟩ := number2_call t ht
  unfold okNum
  cases hn : numB t
  · rw [hn] at hc
    simp [f180, hc, ss, runBody, exec, exOps, exDraw, exTrace, wanted, aop, Opd.ev, Opd.taken, Frame.get, abin, aun, cmpInt, eqOp, Frame.putO, Frame.put, Frame.keep, params, kid5, AVal.known, AVal.cells, ASt.push, loadAt, cut, mk, ASt.get, getL, results, result, ASt.trunc, underL, AVal.under]
  · rw [hn] at hc
    cases t with
    | nil => cases hn
    | cons c r =>
      by_cases h : c :: r = [48]
      · rw [h] at hc ⊢
        simp [f180, hc, ss, runBody, exec, exOps, exDraw, exTrace, wanted, aop, Opd.ev, Opd.taken, Frame.get, abin, aun, cmpInt, eqOp, Frame.putO, Frame.put, Frame.keep, params, kid5, AVal.known, AVal.cells, ASt.push, loadAt, cut, mk, ASt.get, getL, results, result, ASt.trunc, underL, AVal.under]
      · have hb : (c :: r == [48]) = false := by simpa using h
        have hg : (c :: r)[0]? = some c := rfl
        have hh : (c :: r).head? = some c := rfl
        have hq : (decide ((c.toNat : Int) = 48)) = (c == 48) := by
          rw [Bool.eq_iff_iff]
          simp only [decide_eq_true_eq, beq_iff_eq]
          constructor
          · intro hx
            apply UInt8.toNat_inj.1
            have : (48 : UInt8).toNat = 48 := rfl
            omega
          · intro hx
            subst hx
            rfl
        rw [hh]
        generalize c :: r = w at *
        simp [f180, hc, h, hb, hg, hq, ss, runBody, exec, exOps, exDraw, exTrace, wanted, aop, Opd.ev, Opd.taken, Frame.get, abin, aun, cmpInt, eqOp, Frame.putO, Frame.put, Frame.keep, params, kid5, AVal.known, AVal.cells, ASt.push, loadAt, cut, mk, ASt.get, getL, results, result, ASt.trunc, underL, AVal.under]

end Go.Proofs.YtdhgdpokdhjanaaGreat.Abs
/- The reference's names. -/
namespace Go.Proofs.YtdhgdpokdhjanaaGreat.Abs
open Go

theorem has_lit (l : List (List UInt8)) (hl : l.length ≤ limit) (t : List UInt8) : Call C2 142 [.sl (l.map AVal.str) l.length .exact, .str t] ⟨0, []⟩ = some (.bool (l.contains t), ⟨0, []⟩) := has_call l .exact (.inr rfl) hl t

theorem keyword2_call (t : List UInt8) : Call C2 143 [.str t] ⟨0, []⟩ = some (.bool (kws.contains t), ⟨0, []⟩) := by
  rw [run_of (af := f143) rfl rfl]
  have h := has_lit kws (by decide) t
  generalize hq : kws.contains t = q at h
  simp only [kws, List.map_cons, List.map_nil, List.length_cons, List.length_nil, Nat.reduceAdd] at h
  simp [f143, h, fill, zeros, splice, Own.under, ss, runBody, exec, exOps, exDraw, exTrace, wanted, aop, Opd.ev, Opd.taken, Frame.get, abin, aun, cmpInt, eqOp, Frame.putO, Frame.put, Frame.keep, params, kid5, AVal.known, AVal.cells, ASt.push, loadAt, cut, mk, ASt.get, getL, results, result, ASt.trunc, underL, AVal.under]

def tokBlock : ACode := match f157.code with
  | .seq _ (.seq _ (.seq (.block _ (.seq _ (.cond _ (.seq (.block _ (.loop b _)) _) _))) _)) => b
  | _ => .bad

theorem get_drop4 {t : List UInt8} {i : Nat} {c : UInt8} {r : List UInt8} (h : t.drop i = c :: r) : t[i]? = some c := by
  have : (t.drop i)[0]? = some c := by rw [h]; rfl
  simpa using this

theorem tok_loop (t : List UInt8) (ht : t.length ≤ limit) : ∀ (r : List UInt8) (i : Nat), t.drop i = r → i ≤ t.length →
    ∃ A, Loop C2 tokBlock [0, 1, 6] [(0, .str t), (1, .int .i64 0), (6, .int .i64 i)] ⟨0, []⟩ = some (.exit 1, (0, .str t) :: (1, .int .i64 0) :: (6, .int .i64 ((i + lead nameB r : Nat) : Int)) :: A, ⟨0, []⟩)
  | [], i, h, hi => by
    have : i = t.length := by
      have := congrArg List.length h
      simp only [List.length_drop, List.length_nil] at this
      omega
    subst this
    refine ⟨[(34, .bool false)], ?_⟩
    rw [Loop_eq]
    simp [stepLoop, tokBlock, f157, lead, ss, runBody, exec, exOps, exDraw, exTrace, wanted, aop, Opd.ev, Opd.taken, Frame.get, abin, aun, cmpInt, eqOp, Frame.putO, Frame.put, Frame.keep, params, kid5, AVal.known, AVal.cells, ASt.push, loadAt, cut, mk, ASt.get, getL, results, result, ASt.trunc, underL, AVal.under]
  | c :: r, i, h, hi => by
    have hlt : i < t.length := by
      have := congrArg List.length h
      simp only [List.length_drop, List.length_cons] at this
      omega
    have hget := get_drop4 h
    have hget2 : t[i]'hlt = c := by
      have h0 := List.getElem?_eq_getElem hlt
      rw [hget] at h0
      exact (Option.some.inj h0).symm
    have hw : IntKind.wrap .i64 ((i : Int) + 1) = ((i + 1 : Nat) : Int) := by
      rw [wrap_i64 (by omega) (by unfold limit at ht; omega)]; rfl
    have hc1 := Call12 (letter2_call c ⟨0, []⟩)
    have hc2 := Call12 (digit2_call c ⟨0, []⟩)
    have h3 : (decide ((c.toNat : Int) = 95)) = decide (c.toNat = 95) := by
      rw [decide_eq_decide]; omega
    cases hn : nameB c
    · refine ⟨[(34, .bool false)], ?_⟩
      rw [Loop_eq]
      have hn2 := hn
      unfold nameB at hn2
      simp only [Bool.or_eq_false_iff] at hn2
      rw [hn2.1.1] at hc1
      rw [hn2.1.2] at hc2
      rw [hn2.2] at h3
      simp [stepLoop, tokBlock, f157, lead, hn, hlt, hget2, hc1, hc2, h3, ss, runBody, exec, exOps, exDraw, exTrace, wanted, aop, Opd.ev, Opd.taken, Frame.get, abin, aun, cmpInt, eqOp, Frame.putO, Frame.put, Frame.keep, params, kid5, AVal.known, AVal.cells, ASt.push, loadAt, cut, mk, ASt.get, getL, results, result, ASt.trunc, underL, AVal.under]
    · obtain ⟨A, ih⟩ := tok_loop t ht r (i + 1) (by rw [← List.drop_drop, h]; rfl) (by omega)
      refine ⟨A, ?_⟩
      have hle : i + lead nameB (c :: r) = i + 1 + lead nameB r := by simp only [lead, hn, if_true]; omega
      rw [hle, ← ih]
      conv => lhs; rw [Loop_eq]
      unfold nameB at hn
      cases q1 : letterB c
      · rw [q1] at hc1 hn
        cases q2 : digitB c
        · rw [q2] at hc2 hn
          simp only [Bool.false_or] at hn
          rw [hn] at h3
          simp [stepLoop, tokBlock, f157, hlt, hget2, hc1, hc2, h3, hw, ss, runBody, exec, exOps, exDraw, exTrace, wanted, aop, Opd.ev, Opd.taken, Frame.get, abin, aun, cmpInt, eqOp, Frame.putO, Frame.put, Frame.keep, params, kid5, AVal.known, AVal.cells, ASt.push, loadAt, cut, mk, ASt.get, getL, results, result, ASt.trunc, underL, AVal.under]
        · rw [q2] at hc2
          simp [stepLoop, tokBlock, f157, hlt, hget2, hc1, hc2, hw, ss, runBody, exec, exOps, exDraw, exTrace, wanted, aop, Opd.ev, Opd.taken, Frame.get, abin, aun, cmpInt, eqOp, Frame.putO, Frame.put, Frame.keep, params, kid5, AVal.known, AVal.cells, ASt.push, loadAt, cut, mk, ASt.get, getL, results, result, ASt.trunc, underL, AVal.under]
      · rw [q1] at hc1
        simp [stepLoop, tokBlock, f157, hlt, hget2, hc1, hw, ss, runBody, exec, exOps, exDraw, exTrace, wanted, aop, Opd.ev, Opd.taken, Frame.get, abin, aun, cmpInt, eqOp, Frame.putO, Frame.put, Frame.keep, params, kid5, AVal.known, AVal.cells, ASt.push, loadAt, cut, mk, ASt.get, getL, results, result, ASt.trunc, underL, AVal.under]

theorem lead_le4 (p : UInt8 → Bool) : ∀ t : List UInt8, lead p t ≤ t.length
  | [] => Nat.le_refl _
  | c :: r => by
    have := lead_le4 p r
    simp only [lead, List.length_cons]
    split <;> omega

theorem token_call (c : UInt8) (r : List UInt8) (ht : (c :: r).length ≤ limit) (hc : letterB c = true) : ∃ v, Call C2 157 [.str (c :: r), .int .i64 0] ⟨0, []⟩ = some (.tup [.int .i64 v, .int .i64 (lead nameB (c :: r))], ⟨0, []⟩) := by
  obtain ⟨A, hL0⟩ := tok_loop (c :: r) ht (c :: r) 0 rfl (Nat.zero_le _)
  have hL : Loop C2 tokBlock [0, 1, 6] [(0, .str (c :: r)), (1, .int .i64 0), (6, .int .i64 0), (8, .bool true)] ⟨0, []⟩ = some (.exit 1, (0, .str (c :: r)) :: (1, .int .i64 0) :: (6, .int .i64 ((0 + lead nameB (c :: r) : Nat) : Int)) :: A, ⟨0, []⟩) := by
    rw [Loop_eq] at hL0 ⊢
    exact hL0
  clear hL0
  have hg : (c :: r)[0]? = some c := rfl
  have hc1 := Call12 (letter2_call c ⟨0, []⟩)
  rw [hc] at hc1
  have hle := lead_le4 nameB (c :: r)
  have hk := keyword2_call (((c :: r).take (lead nameB (c :: r))).drop 0)
  generalize kws.contains (((c :: r).take (lead nameB (c :: r))).drop 0) = q at hk
  rw [run_of (af := f157) rfl rfl]
  generalize c :: r = w at *
  simp [tokBlock, f157] at hL
  cases q
  · refine ⟨0, ?_⟩
    simp only [List.drop_zero] at hk
    simp [f157, hg, hc1, hL, hk, aslice, bound, natOf, hle, ss, runBody, exec, exOps, exDraw, exTrace, wanted, aop, Opd.ev, Opd.taken, Frame.get, abin, aun, cmpInt, eqOp, Frame.putO, Frame.put, Frame.keep, params, kid5, AVal.known, AVal.cells, ASt.push, loadAt, cut, mk, ASt.get, getL, results, result, ASt.trunc, underL, AVal.under]
  · refine ⟨1, ?_⟩
    simp only [List.drop_zero] at hk
    simp [f157, hg, hc1, hL, hk, aslice, bound, natOf, hle, ss, runBody, exec, exOps, exDraw, exTrace, wanted, aop, Opd.ev, Opd.taken, Frame.get, abin, aun, cmpInt, eqOp, Frame.putO, Frame.put, Frame.keep, params, kid5, AVal.known, AVal.cells, ASt.push, loadAt, cut, mk, ASt.get, getL, results, result, ASt.trunc, underL, AVal.under]

theorem name2_call (t : List UInt8) (ht : t.length ≤ limit) : Call C2 144 [.str t] ⟨0, []⟩ = some (.bool (okName t), ⟨0, []⟩) := by
  rw [run_of (af := f144) rfl rfl]
  cases t with
  | nil => simp [f144, okName, ss, runBody, exec, exOps, exDraw, exTrace, wanted, aop, Opd.ev, Opd.taken, Frame.get, abin, aun, cmpInt, eqOp, Frame.putO, Frame.put, Frame.keep, params, kid5, AVal.known, AVal.cells, ASt.push, loadAt, cut, mk, ASt.get, getL, results, result, ASt.trunc, underL, AVal.under]
  | cons c r =>
    have h0 : ¬ (((c :: r).length : Int) < 1) := by simp only [List.length_cons]; omega
    by_cases h1 : 16 < (c :: r).length
    · have h2 : (16 : Int) < ((c :: r).length : Int) := by omega
      have h3 : ¬ (c :: r).length ≤ 16 := by omega
      simp only [okName, h3, decide_false, Bool.false_and]
      generalize c :: r = w at *
      simp [f144, h0, h2, ss, runBody, exec, exOps, exDraw, exTrace, wanted, aop, Opd.ev, Opd.taken, Frame.get, abin, aun, cmpInt, eqOp, Frame.putO, Frame.put, Frame.keep, params, kid5, AVal.known, AVal.cells, ASt.push, loadAt, cut, mk, ASt.get, getL, results, result, ASt.trunc, underL, AVal.under]
    have h2 : ¬ (16 : Int) < ((c :: r).length : Int) := by omega
    have h3 : (c :: r).length ≤ 16 := by omega
    have hc := Call12 (letter2_call c ⟨0, []⟩)
    have hk := keyword2_call (c :: r)
    have he : (decide (((lead nameB (c :: r) : Nat) : Int) = (((c :: r).length : Nat) : Int))) = decide (lead nameB (c :: r) = (c :: r).length) := by
      rw [decide_eq_decide]; omega
    have htok := token_call c r ht
    unfold okName
    simp only [h3, decide_true, Bool.true_and]
    generalize kws.contains (c :: r) = kw at hk
    generalize lead nameB (c :: r) = ld at htok he
    have hg : (c :: r)[0]? = some c := rfl
    have hne2 : ¬ (c :: r) = [] := by simp
    generalize hcr : c :: r = w at *
    cases hl : letterB c
    · rw [hl] at hc
      simp [f144, h0, h2, hg, hc, ss, runBody, exec, exOps, exDraw, exTrace, wanted, aop, Opd.ev, Opd.taken, Frame.get, abin, aun, cmpInt, eqOp, Frame.putO, Frame.put, Frame.keep, params, kid5, AVal.known, AVal.cells, ASt.push, loadAt, cut, mk, ASt.get, getL, results, result, ASt.trunc, underL, AVal.under]
    · rw [hl] at hc
      obtain ⟨v, htok⟩ := htok hl
      cases kw
      · simp [f144, h0, h2, hg, hc, hk, htok, he, ss, runBody, exec, exOps, exDraw, exTrace, wanted, aop, Opd.ev, Opd.taken, Frame.get, abin, aun, cmpInt, eqOp, Frame.putO, Frame.put, Frame.keep, params, kid5, AVal.known, AVal.cells, ASt.push, loadAt, cut, mk, ASt.get, getL, results, result, ASt.trunc, underL, AVal.under]
      · simp [f144, h0, h2, hg, hc, hk, ss, runBody, exec, exOps, exDraw, exTrace, wanted, aop, Opd.ev, Opd.taken, Frame.get, abin, aun, cmpInt, eqOp, Frame.putO, Frame.put, Frame.keep, params, kid5, AVal.known, AVal.cells, ASt.push, loadAt, cut, mk, ASt.get, getL, results, result, ASt.trunc, underL, AVal.under]

end Go.Proofs.YtdhgdpokdhjanaaGreat.Abs
