/- The reference's Level, need, Parentheses: the same. -/
import Derived.Test.YtdhgdpokdhjanaaGreatMX7
set_option linter.unusedSimpArgs false
set_option linter.unusedVariables false
namespace Go.Proofs.YtdhgdpokdhjanaaGreat.Abs
open Go

def l2Loop : ACode := match f225.code with
  | .seq _ (.seq _ (.seq (.seq _ (.block _ (.seq _ (.cond _ (.seq _ (.block _ (.loop b _))) _)))) _)) => b
  | _ => .bad

theorem l2_step (j : Int) (hj : j ≤ 6) {v : AVal} (hv : Call C2 183 [.int .i64 j] ⟨0, []⟩ = some (v, ⟨0, []⟩)) (hvs : v.strip = v) (hvu : v.under 0 = true) {t : List UInt8} {b : Bool} (hh : Call C2 142 [v, .str t] ⟨0, []⟩ = some (.bool b, ⟨0, []⟩))
    (k p e : Int) (kv : AVal) : Loop C2 l2Loop [1, 3] [(1, .ref 0 0), (3, .int .i64 j)] ⟨1, [.cells (kid5 k t p e kv)]⟩ =
      if b then some (.ret, [(2, .int .i64 j)], ⟨1, [.cells (kid5 k t p e kv)]⟩) else Loop C2 l2Loop [1, 3] [(1, .ref 0 0), (3, .int .i64 (IntKind.wrap .i64 (j + 1)))] ⟨1, [.cells (kid5 k t p e kv)]⟩ := by
  rw [Loop_eq]
  cases b <;> simp [stepLoop, l2Loop, f225, hj, hv, hvs, hvu, hh, ss, runBody, exec, exOps, exDraw, exTrace, wanted, aop, Opd.ev, Opd.taken, Frame.get, abin, aun, cmpInt, eqOp, Frame.putO, Frame.put, Frame.keep, params, kid5, AVal.known, AVal.cells, ASt.push, loadAt, cut, mk, ASt.get, getL, results, result, ASt.trunc, underL, AVal.under]

theorem l2_end (k p e : Int) (t : List UInt8) (kv : AVal) : Loop C2 l2Loop [1, 3] [(1, .ref 0 0), (3, .int .i64 7)] ⟨1, [.cells (kid5 k t p e kv)]⟩ = some (.exit 1, [(1, .ref 0 0), (3, .int .i64 7), (13, .bool false)], ⟨1, [.cells (kid5 k t p e kv)]⟩) := by
  rw [Loop_eq]
  simp [stepLoop, l2Loop, f225, ss, runBody, exec, exOps, exDraw, exTrace, wanted, aop, Opd.ev, Opd.taken, Frame.get, abin, aun, cmpInt, eqOp, Frame.putO, Frame.put, Frame.keep, params, kid5, AVal.known, AVal.cells, ASt.push, loadAt, cut, mk, ASt.get, getL, results, result, ASt.trunc, underL, AVal.under]

def strs (l : List (List UInt8)) : AVal := .sl (l.map AVal.str) l.length .exact
def op1 : List (List UInt8) := [[111, 114]]
def op2 : List (List UInt8) := [[97, 110, 100]]
def op4 : List (List UInt8) := [[61, 61], [33, 61], [60], [60, 61], [62], [62, 61]]
def op5 : List (List UInt8) := [[43], [45]]
def op6 : List (List UInt8) := [[42], [47], [37]]
theorem ops1 : Call C2 183 [.int .i64 1] ⟨0, []⟩ = some (strs op1, ⟨0, []⟩) := (know_holds (x := ⟨183, [.int .i64 1], strs op1⟩) all_nil (k := 10) (by kernel_rfl) : Fact.holds C2 _)
theorem ops2 : Call C2 183 [.int .i64 2] ⟨0, []⟩ = some (strs op2, ⟨0, []⟩) := (know_holds (x := ⟨183, [.int .i64 2], strs op2⟩) all_nil (k := 10) (by kernel_rfl) : Fact.holds C2 _)
theorem ops3 : Call C2 183 [.int .i64 3] ⟨0, []⟩ = some (.nils, ⟨0, []⟩) := (know_holds (x := ⟨183, [.int .i64 3], .nils⟩) all_nil (k := 10) (by kernel_rfl) : Fact.holds C2 _)
theorem ops4 : Call C2 183 [.int .i64 4] ⟨0, []⟩ = some (strs op4, ⟨0, []⟩) := (know_holds (x := ⟨183, [.int .i64 4], strs op4⟩) all_nil (k := 10) (by kernel_rfl) : Fact.holds C2 _)
theorem ops5 : Call C2 183 [.int .i64 5] ⟨0, []⟩ = some (strs op5, ⟨0, []⟩) := (know_holds (x := ⟨183, [.int .i64 5], strs op5⟩) all_nil (k := 10) (by kernel_rfl) : Fact.holds C2 _)
theorem ops6 : Call C2 183 [.int .i64 6] ⟨0, []⟩ = some (strs op6, ⟨0, []⟩) := (know_holds (x := ⟨183, [.int .i64 6], strs op6⟩) all_nil (k := 10) (by kernel_rfl) : Fact.holds C2 _)

theorem has_strs (l : List (List UInt8)) (hl : l.length ≤ limit) (t : List UInt8) : Call C2 142 [strs l, .str t] ⟨0, []⟩ = some (.bool (l.contains t), ⟨0, []⟩) := has_call l .exact (.inr rfl) hl t

/-- The level at which the loop stops. -/
def stop (t : List UInt8) : Option Int := if op1.contains t then some 1 else if op2.contains t then some 2 else if op4.contains t then some 4 else if op5.contains t then some 5 else if op6.contains t then some 6 else none

theorem stop_opl (t : List UInt8) : stop t = opl t := by
  unfold opl ops
  simp only [lookS]
  by_cases h1 : t = [111, 114]; · subst h1; rfl
  by_cases h2 : t = [97, 110, 100]; · subst h2; rfl
  by_cases h3 : t = [61, 61]; · subst h3; rfl
  by_cases h4 : t = [33, 61]; · subst h4; rfl
  by_cases h5 : t = [60]; · subst h5; rfl
  by_cases h6 : t = [60, 61]; · subst h6; rfl
  by_cases h7 : t = [62]; · subst h7; rfl
  by_cases h8 : t = [62, 61]; · subst h8; rfl
  by_cases h9 : t = [43]; · subst h9; rfl
  by_cases h10 : t = [45]; · subst h10; rfl
  by_cases h11 : t = [42]; · subst h11; rfl
  by_cases h12 : t = [47]; · subst h12; rfl
  by_cases h13 : t = [37]; · subst h13; rfl
  simp [stop, op1, op2, op4, op5, op6, h1, h2, h3, h4, h5, h6, h7, h8, h9, h10, h11, h12, h13]

theorem l2_loop (k p e : Int) (t : List UInt8) (kv : AVal) : Loop C2 l2Loop [1, 3] [(1, .ref 0 0), (3, .int .i64 1)] ⟨1, [.cells (kid5 k t p e kv)]⟩ = match opl t with
    | some j => some (.ret, [(2, .int .i64 j)], ⟨1, [.cells (kid5 k t p e kv)]⟩)
    | none => some (.exit 1, [(1, .ref 0 0), (3, .int .i64 7), (13, .bool false)], ⟨1, [.cells (kid5 k t p e kv)]⟩) := by
  have w : ∀ j : Int, 0 ≤ j → j < 100 → IntKind.wrap .i64 (j + 1) = j + 1 := fun j h1 h2 => wrap_i64 (by omega) (by omega)
  have s1 := l2_step 1 (by omega) ops1 rfl rfl (has_strs op1 (by decide) t) k p e kv
  have s2 := l2_step 2 (by omega) ops2 rfl rfl (has_strs op2 (by decide) t) k p e kv
  have s3 := l2_step 3 (by omega) ops3 rfl rfl (has_nils t) k p e kv
  have s4 := l2_step 4 (by omega) ops4 rfl rfl (has_strs op4 (by decide) t) k p e kv
  have s5 := l2_step 5 (by omega) ops5 rfl rfl (has_strs op5 (by decide) t) k p e kv
  have s6 := l2_step 6 (by omega) ops6 rfl rfl (has_strs op6 (by decide) t) k p e kv
  rw [w 1 (by omega) (by omega)] at s1
  rw [w 2 (by omega) (by omega)] at s2
  rw [w 3 (by omega) (by omega)] at s3
  rw [w 4 (by omega) (by omega)] at s4
  rw [w 5 (by omega) (by omega)] at s5
  rw [w 6 (by omega) (by omega)] at s6
  rw [← stop_opl, s1, show (1 : Int) + 1 = 2 from rfl, s2, show (2 : Int) + 1 = 3 from rfl, s3, show (3 : Int) + 1 = 4 from rfl, s4, show (4 : Int) + 1 = 5 from rfl, s5, show (5 : Int) + 1 = 6 from rfl, s6, show (6 : Int) + 1 = 7 from rfl, l2_end]
  unfold stop
  cases op1.contains t <;> cases op2.contains t <;> cases op4.contains t <;> cases op5.contains t <;> cases op6.contains t <;> rfl

set_option maxHeartbeats 4000000 in
theorem level2_call (k : Int) (t : List UInt8) (p e : Int) (kv : AVal) : Call C2 225 [.agg (kid5 k t p e kv)] ⟨0, []⟩ = some (.int .i64 (lev k t), ⟨0, []⟩) := by
  rw [run_of (af := f225) rfl rfl]
  have hE := isExpr_call k
  have hL := l2_loop k p e t kv
  unfold lev
  by_cases h1 : k < 20
  · have : ¬ 20 ≤ k := by omega
    simp [this] at hE
    simp [f225, hE, h1, ss, runBody, exec, exOps, exDraw, exTrace, wanted, aop, Opd.ev, Opd.taken, Frame.get, abin, aun, cmpInt, eqOp, Frame.putO, Frame.put, Frame.keep, params, kid5, AVal.known, AVal.cells, ASt.push, loadAt, cut, mk, ASt.get, getL, results, result, ASt.trunc, underL, AVal.under]
  by_cases h2 : 29 < k
  · have : ¬ k ≤ 29 := by omega
    simp [this] at hE
    simp [f225, hE, h1, h2, ss, runBody, exec, exOps, exDraw, exTrace, wanted, aop, Opd.ev, Opd.taken, Frame.get, abin, aun, cmpInt, eqOp, Frame.putO, Frame.put, Frame.keep, params, kid5, AVal.known, AVal.cells, ASt.push, loadAt, cut, mk, ASt.get, getL, results, result, ASt.trunc, underL, AVal.under]
  have h1' : 20 ≤ k := by omega
  have h2' : k ≤ 29 := by omega
  simp [h1', h2'] at hE
  by_cases h3 : k = 29
  · subst h3
    simp [l2Loop, f225, kid5] at hL
    cases ho : opl t with
    | none =>
      rw [ho] at hL
      simp [f225, hE, hL, ss, runBody, exec, exOps, exDraw, exTrace, wanted, aop, Opd.ev, Opd.taken, Frame.get, abin, aun, cmpInt, eqOp, Frame.putO, Frame.put, Frame.keep, params, kid5, AVal.known, AVal.cells, ASt.push, loadAt, cut, mk, ASt.get, getL, results, result, ASt.trunc, underL, AVal.under]
    | some j =>
      rw [ho] at hL
      simp [f225, hE, hL, ss, runBody, exec, exOps, exDraw, exTrace, wanted, aop, Opd.ev, Opd.taken, Frame.get, abin, aun, cmpInt, eqOp, Frame.putO, Frame.put, Frame.keep, params, kid5, AVal.known, AVal.cells, ASt.push, loadAt, cut, mk, ASt.get, getL, results, result, ASt.trunc, underL, AVal.under]
  by_cases h4 : k = 28
  · subst h4
    by_cases h5 : t = [110, 111, 116]
    · subst h5
      simp [f225, hE, ss, runBody, exec, exOps, exDraw, exTrace, wanted, aop, Opd.ev, Opd.taken, Frame.get, abin, aun, cmpInt, eqOp, Frame.putO, Frame.put, Frame.keep, params, kid5, AVal.known, AVal.cells, ASt.push, loadAt, cut, mk, ASt.get, getL, results, result, ASt.trunc, underL, AVal.under]
    by_cases h6 : t = [45]
    · subst h6
      simp [f225, hE, ss, runBody, exec, exOps, exDraw, exTrace, wanted, aop, Opd.ev, Opd.taken, Frame.get, abin, aun, cmpInt, eqOp, Frame.putO, Frame.put, Frame.keep, params, kid5, AVal.known, AVal.cells, ASt.push, loadAt, cut, mk, ASt.get, getL, results, result, ASt.trunc, underL, AVal.under]
    · simp [f225, hE, h5, h6, ss, runBody, exec, exOps, exDraw, exTrace, wanted, aop, Opd.ev, Opd.taken, Frame.get, abin, aun, cmpInt, eqOp, Frame.putO, Frame.put, Frame.keep, params, kid5, AVal.known, AVal.cells, ASt.push, loadAt, cut, mk, ASt.get, getL, results, result, ASt.trunc, underL, AVal.under]
  · simp [f225, hE, h1, h2, h3, h4, ss, runBody, exec, exOps, exDraw, exTrace, wanted, aop, Opd.ev, Opd.taken, Frame.get, abin, aun, cmpInt, eqOp, Frame.putO, Frame.put, Frame.keep, params, kid5, AVal.known, AVal.cells, ASt.push, loadAt, cut, mk, ASt.get, getL, results, result, ASt.trunc, underL, AVal.under]

def needV (k : Int) (l i : Int) : Int := if l = 8 ∨ l = 0 then 1 else if k = 28 then l else if l = 4 ∨ i ≠ 0 then IntKind.wrap .i64 (l + 1) else l

set_option maxHeartbeats 4000000 in
theorem need_call (k : Int) (t : List UInt8) (p e : Int) (kv : AVal) (hst : kv.strip = kv) (hu : kv.under 0 = true) (i : Int) : Call C2 234 [.agg (kid5 k t p e kv), .int .i64 i] ⟨0, []⟩ = some (.int .i64 (needV k (lev k t) i), ⟨0, []⟩) := by
  rw [run_of (af := f234) rfl rfl]
  have hc := level2_call k t p e kv
  simp only [kid5] at hc
  have hopl : ∀ j, opl t = some j → j = 1 ∨ j = 2 ∨ j = 4 ∨ j = 5 ∨ j = 6 := fun j hj => by
    rw [← stop_opl] at hj
    unfold stop at hj
    split at hj <;> try (cases hj; omega)
    split at hj <;> try (cases hj; omega)
    split at hj <;> try (cases hj; omega)
    split at hj <;> try (cases hj; omega)
    split at hj <;> cases hj
    omega
  have hlev : (k = 28 ∧ (lev k t = 3 ∨ lev k t = 7 ∨ lev k t = 8)) ∨ (k = 29 ∧ (lev k t = 1 ∨ lev k t = 2 ∨ lev k t = 4 ∨ lev k t = 5 ∨ lev k t = 6 ∨ lev k t = 8)) ∨ (k ≠ 28 ∧ k ≠ 29 ∧ (lev k t = 0 ∨ lev k t = 8)) := by
    unfold lev
    by_cases h3 : k = 29
    · subst h3
      cases ho : opl t with
      | none => simp
      | some j => have := hopl j ho; simp; omega
    by_cases h4 : k = 28
    · subst h4
      by_cases h5 : t = [110, 111, 116]
      · simp [h5]
      · by_cases h6 : t = [45]
        · simp [h6]
        · simp [h5, h6]
    · right; right
      refine ⟨h4, h3, ?_⟩
      split
      · simp
      · simp [h3, h4]
  generalize lev k t = l at hc hlev
  unfold needV
  rcases hlev with ⟨rfl, hl⟩ | ⟨rfl, hl⟩ | ⟨h1, h2, hl⟩
  · rcases hl with rfl | rfl | rfl <;> simp [f234, hc, hst, hu, ss, runBody, exec, exOps, exDraw, exTrace, wanted, aop, Opd.ev, Opd.taken, Frame.get, abin, aun, cmpInt, eqOp, Frame.putO, Frame.put, Frame.keep, params, kid5, AVal.known, AVal.cells, ASt.push, loadAt, cut, mk, ASt.get, getL, results, result, ASt.trunc, underL, AVal.under]
  · by_cases h5 : i = 0
    · subst h5
      rcases hl with rfl | rfl | rfl | rfl | rfl | rfl <;> simp [f234, hc, hst, hu, ss, runBody, exec, exOps, exDraw, exTrace, wanted, aop, Opd.ev, Opd.taken, Frame.get, abin, aun, cmpInt, eqOp, Frame.putO, Frame.put, Frame.keep, params, kid5, AVal.known, AVal.cells, ASt.push, loadAt, cut, mk, ASt.get, getL, results, result, ASt.trunc, underL, AVal.under]
      all_goals rfl
    · rcases hl with rfl | rfl | rfl | rfl | rfl | rfl <;> simp [f234, hc, hst, hu, h5, ss, runBody, exec, exOps, exDraw, exTrace, wanted, aop, Opd.ev, Opd.taken, Frame.get, abin, aun, cmpInt, eqOp, Frame.putO, Frame.put, Frame.keep, params, kid5, AVal.known, AVal.cells, ASt.push, loadAt, cut, mk, ASt.get, getL, results, result, ASt.trunc, underL, AVal.under]
      all_goals rfl
  · rcases hl with rfl | rfl <;> simp [f234, hc, hst, hu, h1, h2, ss, runBody, exec, exOps, exDraw, exTrace, wanted, aop, Opd.ev, Opd.taken, Frame.get, abin, aun, cmpInt, eqOp, Frame.putO, Frame.put, Frame.keep, params, kid5, AVal.known, AVal.cells, ASt.push, loadAt, cut, mk, ASt.get, getL, results, result, ASt.trunc, underL, AVal.under]

set_option maxHeartbeats 4000000 in
theorem paren2_call (k : Int) (t : List UInt8) (p e : Int) (kv : AVal) (hst : kv.strip = kv) (hu : kv.under 0 = true) (i : Int) (k2 : Int) (t2 : List UInt8) (p2 e2 : Int) (kv2 : AVal) (hst2 : kv2.strip = kv2) (hu2 : kv2.under 0 = true) :
    Call C2 226 [.agg (kid5 k t p e kv), .int .i64 i, .agg (kid5 k2 t2 p2 e2 kv2)] ⟨0, []⟩ = some (.bool (decide (20 ≤ k2 ∧ k2 ≤ 29 ∧ lev k2 t2 < needV k (lev k t) i)), ⟨0, []⟩) := by
  rw [run_of (af := f226) rfl rfl]
  have hE := isExpr_call k2
  have hc := level2_call k2 t2 p2 e2 kv2
  have hm := need_call k t p e kv hst hu i
  simp only [kid5] at hc hm
  generalize lev k2 t2 = l at hc
  generalize needV k (lev k t) i = m at hm
  by_cases h : 20 ≤ k2 ∧ k2 ≤ 29
  · simp [h.1, h.2] at hE
    simp (maxSteps := 2000000) [f226, hE, hc, hm, hst, hu, hst2, hu2, h.1, h.2, ss, runBody, exec, exOps, exDraw, exTrace, wanted, aop, Opd.ev, Opd.taken, Frame.get, abin, aun, cmpInt, eqOp, Frame.putO, Frame.put, Frame.keep, params, kid5, AVal.known, AVal.cells, ASt.push, loadAt, cut, mk, ASt.get, getL, results, result, ASt.trunc, underL, AVal.under]
  · have hd : decide (20 ≤ k2 ∧ k2 ≤ 29) = false := by simpa using h
    rw [hd] at hE
    have h2 : ¬ (20 ≤ k2 ∧ k2 ≤ 29 ∧ l < m) := fun hh => h ⟨hh.1, hh.2.1⟩
    simp (maxSteps := 2000000) [f226, hE, hst, hu, hst2, hu2, h2, ss, runBody, exec, exOps, exDraw, exTrace, wanted, aop, Opd.ev, Opd.taken, Frame.get, abin, aun, cmpInt, eqOp, Frame.putO, Frame.put, Frame.keep, params, kid5, AVal.known, AVal.cells, ASt.push, loadAt, cut, mk, ASt.get, getL, results, result, ASt.trunc, underL, AVal.under]

end Go.Proofs.YtdhgdpokdhjanaaGreat.Abs
/- A tree is small or not; the law of the levels. -/
namespace Go.Proofs.YtdhgdpokdhjanaaGreat.Abs
open Go

def smLoop : ACode := match f172.code with
  | .seq _ (.seq _ (.seq (.seq _ (.block _ (.loop b _))) _)) => b
  | _ => .bad

theorem flat_cut {y : List (List AVal)} (hy : ∀ x ∈ y, x.length = 5 ∧ x.all AVal.one = true) {i : Nat} {x : List AVal} {r : List (List AVal)} (h : y.drop i = x :: r) (j : Nat) (hj : j < 5) : (flat y)[i * 5 + j]? = x[j]? := by
  induction i generalizing y with
  | zero =>
    simp only [List.drop_zero] at h
    subst h
    have h5 := (hy x (by simp)).1
    unfold flat
    simp only [List.flatMap_cons, id, Nat.zero_mul, Nat.zero_add]
    rw [List.getElem?_append_left (by omega)]
  | succ i ih =>
    cases y with
    | nil => simp at h
    | cons z y =>
      have h5 := (hy z (by simp)).1
      have := ih (y := y) (fun w hw => hy w (by simp [hw])) (by simpa using h)
      unfold flat at this ⊢
      simp only [List.flatMap_cons, id]
      rw [List.getElem?_append_right (by rw [h5]; omega), h5, ← this]
      congr 1
      omega

theorem cut_get {cs : List AVal} {off : Nat} {x : AVal} (h : cs[off]? = some x) : cut cs off 1 = some [x] := by
  have hlt := (List.getElem?_eq_some_iff.1 h).1
  unfold cut
  rw [if_pos (by omega)]
  congr 1
  rw [List.drop_eq_getElem_cons hlt, (List.getElem?_eq_some_iff.1 h).2]
  rfl

theorem small_loop {y : List (List AVal)} (hy : ∀ x ∈ y, ∃ k t p e kv, x = kid5 k t p e kv ∧ kv.under 0 = true) (hy5 : ∀ x ∈ y, x.length = 5 ∧ x.all AVal.one = true) (hlim : y.length ≤ limit) {oa : Own} (hoa : oa = .exact ∨ oa = .mine 5) (m : Int) (x0 : List AVal) :
    ∀ (r : List (List AVal)) (i : Nat), y.drop i = r → i ≤ y.length →
      Loop C2 smLoop [1, 5, 6] [(1, .int .i64 m), (5, .sl (flat y) y.length oa), (6, .int .i64 i)] ⟨1, [.cells x0]⟩ = some (.ret, [(4, .bool false)], ⟨1, [.cells x0]⟩) ∨
      Loop C2 smLoop [1, 5, 6] [(1, .int .i64 m), (5, .sl (flat y) y.length oa), (6, .int .i64 i)] ⟨1, [.cells x0]⟩ = some (.exit 0, [(1, .int .i64 m), (5, .sl (flat y) y.length oa), (6, .int .i64 y.length), (12, .bool false)], ⟨1, [.cells x0]⟩)
  | [], i, h, hi => by
    have : i = y.length := by
      have := congrArg List.length h
      simp only [List.length_drop, List.length_nil] at this
      omega
    subst this
    right
    rw [Loop_eq]
    rcases hoa with rfl | rfl <;> simp [stepLoop, smLoop, f172, ss, runBody, exec, exOps, exDraw, exTrace, wanted, aop, Opd.ev, Opd.taken, Frame.get, abin, aun, cmpInt, eqOp, Frame.putO, Frame.put, Frame.keep, params, kid5, AVal.known, AVal.cells, ASt.push, loadAt, cut, mk, ASt.get, getL, results, result, ASt.trunc, underL, AVal.under]
  | x :: r, i, h, hi => by
    have hlt : i < y.length := by
      have := congrArg List.length h
      simp only [List.length_drop, List.length_cons] at this
      omega
    obtain ⟨k, t, p, e, kv, rfl, _⟩ := hy x (List.mem_of_mem_drop (by rw [h]; simp))
    have hcut : cut (flat y) (i * 5 + 1) 1 = some [.str t] := cut_get (by rw [flat_cut hy5 h 1 (by omega)]; rfl)
    have hw : IntKind.wrap .i64 ((i : Int) + 1) = ((i + 1 : Nat) : Int) := by
      rw [wrap_i64 (by omega) (by unfold limit at hlim; omega)]; rfl
    have ih := small_loop hy hy5 hlim hoa m x0 r (i + 1) (by rw [← List.drop_drop, h]; rfl) (by omega)
    rw [Loop_eq]
    by_cases hx : 60 < t.length
    · left
      have hx2 : (60 : Int) < (t.length : Int) := by omega
      rcases hoa with rfl | rfl <;> simp [stepLoop, smLoop, f172, hlt, hcut, hx, hx2, ss, runBody, exec, exOps, exDraw, exTrace, wanted, aop, Opd.ev, Opd.taken, Frame.get, abin, aun, cmpInt, eqOp, Frame.putO, Frame.put, Frame.keep, params, kid5, AVal.known, AVal.cells, ASt.push, loadAt, mk, ASt.get, getL, results, result, ASt.trunc, underL, AVal.under]
    · have hx2 : ¬ (60 : Int) < (t.length : Int) := by omega
      rcases hoa with rfl | rfl
      · simp [smLoop, f172] at ih
        simp [stepLoop, smLoop, f172, hlt, hcut, hx, hx2, hw, ss, runBody, exec, exOps, exDraw, exTrace, wanted, aop, Opd.ev, Opd.taken, Frame.get, abin, aun, cmpInt, eqOp, Frame.putO, Frame.put, Frame.keep, params, kid5, AVal.known, AVal.cells, ASt.push, loadAt, mk, ASt.get, getL, results, result, ASt.trunc, underL, AVal.under]
        exact ih
      · simp [smLoop, f172] at ih
        simp [stepLoop, smLoop, f172, hlt, hcut, hx, hx2, hw, ss, runBody, exec, exOps, exDraw, exTrace, wanted, aop, Opd.ev, Opd.taken, Frame.get, abin, aun, cmpInt, eqOp, Frame.putO, Frame.put, Frame.keep, params, kid5, AVal.known, AVal.cells, ASt.push, loadAt, mk, ASt.get, getL, results, result, ASt.trunc, underL, AVal.under]
        exact ih

theorem small_call {kv : AVal} {y : List (List AVal)} (h : preV kv = some y) (hlim : y.length + 1 ≤ limit) (k : Int) (t : List UInt8) (p e : Int) (m : Int) : ∃ b, Call C2 172 [.agg (kid5 k t p e kv), .int .i64 m] ⟨0, []⟩ = some (.bool b, ⟨0, []⟩) := by
  obtain ⟨o, ho, hN⟩ := nodes_go y.length k t p e kv y h (Nat.le_refl _) hlim
  have hst := preV_strip h
  have hu := preV_under h
  have h5 : ∀ x ∈ kid5 k t p e kv :: y, x.length = 5 ∧ x.all AVal.one = true := by
    intro x hx
    rcases List.mem_cons.1 hx with rfl | hx
    · refine ⟨rfl, ?_⟩
      have : kv.one = true := by rcases preV_cases h with ⟨rfl, _⟩ | ⟨_, _, _, rfl, _⟩ <;> rfl
      simp [kid5, one_int, one_str, this]
    · exact (pre_five.1 h (Nat.le_refl _)).1 x hx
  have hL := small_loop (y := kid5 k t p e kv :: y) (node_form h k t p e) h5 (by simpa using hlim) ho m (kid5 k t p e kv) _ 0 rfl (Nat.zero_le _)
  rw [run_of (af := f172) rfl rfl]
  generalize hF : flat (kid5 k t p e kv :: y) = F at hN hL
  simp only [List.length_cons] at hL
  simp [smLoop, f172, kid5] at hL
  simp only [kid5] at hN
  rcases hL with hL | hL
  · refine ⟨false, ?_⟩
    rcases ho with rfl | rfl <;> simp [f172, hN, hst, hu, hL, ss, runBody, exec, exOps, exDraw, exTrace, wanted, aop, Opd.ev, Opd.taken, Frame.get, abin, aun, cmpInt, eqOp, Frame.putO, Frame.put, Frame.keep, params, kid5, AVal.known, AVal.cells, ASt.push, loadAt, cut, mk, ASt.get, getL, results, result, ASt.trunc, underL, AVal.under]
  · refine ⟨decide ((y.length : Int) + 1 ≤ m), ?_⟩
    rcases ho with rfl | rfl <;> simp [f172, hN, hst, hu, hL, ss, runBody, exec, exOps, exDraw, exTrace, wanted, aop, Opd.ev, Opd.taken, Frame.get, abin, aun, cmpInt, eqOp, Frame.putO, Frame.put, Frame.keep, params, kid5, AVal.known, AVal.cells, ASt.push, loadAt, cut, mk, ASt.get, getL, results, result, ASt.trunc, underL, AVal.under]

end Go.Proofs.YtdhgdpokdhjanaaGreat.Abs
/- Codes one behind the other. -/
namespace Go.Proofs.YtdhgdpokdhjanaaGreat.Abs
open Go

theorem exec_seq_n {K : CallFn} {L : LoopFn} {a b : ACode} {A A1 : Frame} {s s1 : ASt} (h : exec K L a A s = some (.normal, A1, s1)) : exec K L (.seq a b) A s = exec K L b A1 s1 := by
  simp only [exec, h, Option.bind_some]
theorem exec_seq_r {K : CallFn} {L : LoopFn} {a b : ACode} {A A1 : Frame} {s s1 : ASt} (h : exec K L a A s = some (.ret, A1, s1)) : exec K L (.seq a b) A s = some (.ret, A1, s1) := by
  simp only [exec, h, Option.bind_some]

theorem callp_of {f : Nat} {args : List Opd} {A : Frame} {s : ASt} {v : AVal} {xs : List AVal} (ha : args.map (·.ev A) = xs) (hu : underL 0 xs = true) (h : Call C2 f xs ⟨0, []⟩ = some (v, ⟨0, []⟩)) : aop (Call C2) (.callp (.fn f) args) A s = some (v, A, s) := by
  show (if underL 0 ([] ++ args.map (·.ev A) ++ []) then (Call C2 f ([] ++ args.map (·.ev A) ++ []) ⟨0, []⟩).bind _ else none) = _
  rw [ha, List.nil_append, List.append_nil, hu, h]
  rfl

theorem load_of {s : ASt} {r : Nat} {k : Int} {t : List UInt8} {p e : Int} {kv : AVal} (hg : s.get r = some (.cells (kid5 k t p e kv))) (hst : kv.strip = kv) : loadAt s 5 true (.ref r 0) = some (.agg (kid5 k t p e kv)) := by
  simp [loadAt, hg, kid5, cut, st_int, st_str, hst]

end Go.Proofs.YtdhgdpokdhjanaaGreat.Abs
/- Trees of nodes, as they lie in cells; Small, exactly. -/
namespace Go.Proofs.YtdhgdpokdhjanaaGreat.Abs
open Go

inductive Nd where
  | mk (k : Int) (t : List UInt8) (ks : List Nd)

def Nd.kind : Nd → Int | .mk k _ _ => k
def Nd.text : Nd → List UInt8 | .mk _ t _ => t
def Nd.kids : Nd → List Nd | .mk _ _ ks => ks

mutual
/-- The kids that a value is. -/
def ndV : AVal → Option (List Nd)
  | .nils => some []
  | .sl cs n .none => if cs.length = 5 * n ∧ n ≤ limit then ndL cs else none
  | .sl cs n .exact => if cs.length = 5 * n ∧ n ≤ limit then ndL cs else none
  | _ => none
def ndL : List AVal → Option (List Nd)
  | [] => some []
  | .int .i64 k :: .str t :: .int .i64 _ :: .int .i64 _ :: kv :: r => (ndV kv).bind fun ks => (ndL r).map fun z => .mk k t ks :: z
  | _ => none
end

mutual
/-- All nodes, in order. -/
def Nd.all : Nd → List Nd
  | .mk k t ks => .mk k t ks :: allL ks
def allL : List Nd → List Nd
  | [] => []
  | n :: r => n.all ++ allL r
end

theorem ndL_cons {rem : List AVal} {z : List Nd} (h : ndL rem = some z) : (rem = [] ∧ z = []) ∨ ∃ k t p e kv r ks zs, rem = kid5 k t p e kv ++ r ∧ ndV kv = some ks ∧ ndL r = some zs ∧ z = .mk k t ks :: zs := by
  unfold ndL at h
  split at h
  · cases h; exact .inl ⟨rfl, rfl⟩
  · rename_i k t p e kv r
    obtain ⟨x, hx, h⟩ := bind_some' h
    obtain ⟨z, hz, h⟩ := map_some' h
    exact .inr ⟨k, t, p, e, kv, r, x, z, rfl, hx, hz, h.symm⟩
  · cases h

theorem ndV_cases {kv : AVal} {z : List Nd} (h : ndV kv = some z) : (kv = .nils ∧ z = []) ∨ ∃ cs n o, kv = .sl cs n o ∧ (o = .none ∨ o = .exact) ∧ cs.length = 5 * n ∧ n ≤ limit ∧ ndL cs = some z := by
  unfold ndV at h
  split at h
  · cases h; exact .inl ⟨rfl, rfl⟩
  · split at h
    · rename_i hc; exact .inr ⟨_, _, _, rfl, .inl rfl, hc.1, hc.2, h⟩
    · cases h
  · split at h
    · rename_i hc; exact .inr ⟨_, _, _, rfl, .inr rfl, hc.1, hc.2, h⟩
    · cases h
  · cases h

/-- The text of a node's cells. -/
def textOf : List AVal → List UInt8
  | _ :: .str t :: _ => t
  | _ => []
def kindOf : List AVal → Int
  | .int _ k :: _ => k
  | _ => 0

/-- What lists the nodes' cells lists the nodes. -/
theorem pre_nd : ∀ {N : Nat}, (∀ {kv : AVal} {y : List (List AVal)}, preV kv = some y → y.length ≤ N → ∃ ks, ndV kv = some ks ∧ (allL ks).map Nd.text = y.map textOf) ∧
    ∀ {cs : List AVal} {y : List (List AVal)}, preL cs = some y → y.length ≤ N → ∃ ks, ndL cs = some ks ∧ (allL ks).map Nd.text = y.map textOf := by
  intro N
  induction N with
  | zero =>
    have h0 : ∀ {cs : List AVal} {y : List (List AVal)}, preL cs = some y → y.length ≤ 0 → ∃ ks, ndL cs = some ks ∧ (allL ks).map Nd.text = y.map textOf := by
      intro cs y h hy
      rcases preL_cons h with ⟨rfl, rfl⟩ | ⟨k, t, p, e, kv, r, y1, z, _, h1, h2, rfl⟩
      · exact ⟨[], rfl, rfl⟩
      · simp at hy
    refine ⟨fun {kv y} h hy => ?_, h0⟩
    rcases preV_cases h with ⟨rfl, rfl⟩ | ⟨cs, n, o, rfl, ho, hc, hn, h5⟩
    · exact ⟨[], rfl, rfl⟩
    · obtain ⟨ks, q1, q2⟩ := h0 h5 hy
      exact ⟨ks, by rcases ho with rfl | rfl <;> simp [ndV, hc, hn, q1], q2⟩
  | succ N ih =>
    have hL : ∀ {cs : List AVal} {y : List (List AVal)}, preL cs = some y → y.length ≤ N + 1 → ∃ ks, ndL cs = some ks ∧ (allL ks).map Nd.text = y.map textOf := by
      intro cs y h hy
      rcases preL_cons h with ⟨rfl, rfl⟩ | ⟨k, t, p, e, kv, r, y1, z, rfl, h1, h2, rfl⟩
      · exact ⟨[], rfl, rfl⟩
      · simp only [List.length_cons, List.length_append] at hy
        obtain ⟨ks, a1, a2⟩ := ih.1 h1 (by omega)
        obtain ⟨zs, b1, b2⟩ := ih.2 h2 (by omega)
        refine ⟨.mk k t ks :: zs, by simp [ndL, a1, b1], ?_⟩
        simp [allL, Nd.all, Nd.text, textOf, a2, b2]
    refine ⟨fun {kv y} h hy => ?_, hL⟩
    rcases preV_cases h with ⟨rfl, rfl⟩ | ⟨cs, n, o, rfl, ho, hc, hn, h5⟩
    · exact ⟨[], rfl, rfl⟩
    · obtain ⟨ks, q1, q2⟩ := hL h5 hy
      exact ⟨ks, by rcases ho with rfl | rfl <;> simp [ndV, hc, hn, q1], q2⟩

theorem preV_nd {kv : AVal} {y : List (List AVal)} (h : preV kv = some y) : ∃ ks, ndV kv = some ks ∧ (allL ks).map Nd.text = y.map textOf := pre_nd.1 h (Nat.le_refl _)

/-- At most so many nodes, and short texts. -/
def Nd.small (n : Nd) (m : Int) : Bool := (n.all.all fun x => decide (x.text.length ≤ 60)) && decide ((n.all.length : Int) ≤ m)

theorem small_exact {y : List (List AVal)} (hy : ∀ x ∈ y, ∃ k t p e kv, x = kid5 k t p e kv ∧ kv.under 0 = true) (hy5 : ∀ x ∈ y, x.length = 5 ∧ x.all AVal.one = true) (hlim : y.length ≤ limit) {oa : Own} (hoa : oa = .exact ∨ oa = .mine 5) (m : Int) (x0 : List AVal) :
    ∀ (r : List (List AVal)) (i : Nat), y.drop i = r → i ≤ y.length →
      Loop C2 smLoop [1, 5, 6] [(1, .int .i64 m), (5, .sl (flat y) y.length oa), (6, .int .i64 i)] ⟨1, [.cells x0]⟩ =
        if (r.all fun x => decide ((textOf x).length ≤ 60)) = true then some (.exit 0, [(1, .int .i64 m), (5, .sl (flat y) y.length oa), (6, .int .i64 y.length), (12, .bool false)], ⟨1, [.cells x0]⟩)
        else some (.ret, [(4, .bool false)], ⟨1, [.cells x0]⟩)
  | [], i, h, hi => by
    have : i = y.length := by
      have := congrArg List.length h
      simp only [List.length_drop, List.length_nil] at this
      omega
    subst this
    rw [Loop_eq]
    rcases hoa with rfl | rfl <;> simp [stepLoop, smLoop, f172, ss, runBody, exec, exOps, exDraw, exTrace, wanted, aop, Opd.ev, Opd.taken, Frame.get, abin, aun, cmpInt, eqOp, Frame.putO, Frame.put, Frame.keep, params, kid5, AVal.known, AVal.cells, ASt.push, loadAt, cut, mk, ASt.get, getL, results, result, ASt.trunc, underL, AVal.under]
  | x :: r, i, h, hi => by
    have hlt : i < y.length := by
      have := congrArg List.length h
      simp only [List.length_drop, List.length_cons] at this
      omega
    obtain ⟨k, t, p, e, kv, rfl, _⟩ := hy x (List.mem_of_mem_drop (by rw [h]; simp))
    have hcut : cut (flat y) (i * 5 + 1) 1 = some [.str t] := cut_get (by rw [flat_cut hy5 h 1 (by omega)]; rfl)
    have hw : IntKind.wrap .i64 ((i : Int) + 1) = ((i + 1 : Nat) : Int) := by
      rw [wrap_i64 (by omega) (by unfold limit at hlim; omega)]; rfl
    have ih := small_exact hy hy5 hlim hoa m x0 r (i + 1) (by rw [← List.drop_drop, h]; rfl) (by omega)
    rw [Loop_eq]
    by_cases hx : 60 < t.length
    · have hx2 : (60 : Int) < (t.length : Int) := by omega
      have hx3 : ¬ t.length ≤ 60 := by omega
      rcases hoa with rfl | rfl <;> simp [stepLoop, smLoop, f172, hlt, hcut, hx, hx2, hx3, textOf, ss, runBody, exec, exOps, exDraw, exTrace, wanted, aop, Opd.ev, Opd.taken, Frame.get, abin, aun, cmpInt, eqOp, Frame.putO, Frame.put, Frame.keep, params, kid5, AVal.known, AVal.cells, ASt.push, loadAt, mk, ASt.get, getL, results, result, ASt.trunc, underL, AVal.under]
    · have hx2 : ¬ (60 : Int) < (t.length : Int) := by omega
      have hx3 : t.length ≤ 60 := by omega
      have htx : (textOf [.int .i64 k, .str t, .int .i64 p, .int .i64 e, kv]).length ≤ 60 := hx3
      rcases hoa with rfl | rfl
      · simp [smLoop, f172] at ih
        simp [stepLoop, smLoop, f172, hlt, hcut, hx, hx2, htx, hw, ss, runBody, exec, exOps, exDraw, exTrace, wanted, aop, Opd.ev, Opd.taken, Frame.get, abin, aun, cmpInt, eqOp, Frame.putO, Frame.put, Frame.keep, params, kid5, AVal.known, AVal.cells, ASt.push, loadAt, mk, ASt.get, getL, results, result, ASt.trunc, underL, AVal.under]
        exact ih
      · simp [smLoop, f172] at ih
        simp [stepLoop, smLoop, f172, hlt, hcut, hx, hx2, htx, hw, ss, runBody, exec, exOps, exDraw, exTrace, wanted, aop, Opd.ev, Opd.taken, Frame.get, abin, aun, cmpInt, eqOp, Frame.putO, Frame.put, Frame.keep, params, kid5, AVal.known, AVal.cells, ASt.push, loadAt, mk, ASt.get, getL, results, result, ASt.trunc, underL, AVal.under]
        exact ih

theorem nd_all {kv : AVal} {y : List (List AVal)} {ks : List Nd} (h : (allL ks).map Nd.text = y.map textOf) (k : Int) (t : List UInt8) (p e : Int) (m : Int) :
    Nd.small (.mk k t ks) m = (((kid5 k t p e kv :: y).all fun x => decide ((textOf x).length ≤ 60)) && decide ((y.length : Int) + 1 ≤ m)) := by
  have hl : (allL ks).length = y.length := by
    have := congrArg List.length h
    simpa using this
  have ha : ((allL ks).all fun x => decide (x.text.length ≤ 60)) = (y.all fun x => decide ((textOf x).length ≤ 60)) := by
    have h1 : ((allL ks).all fun x => decide (x.text.length ≤ 60)) = (((allL ks).map Nd.text).all fun x => decide (x.length ≤ 60)) := by
      rw [List.all_map]; rfl
    rw [h1, h, List.all_map]; rfl
  unfold Nd.small
  simp only [Nd.all, List.all_cons, List.length_cons, ha, hl, Int.natCast_add, Int.natCast_one]
  rfl

/-- Small, exactly. -/
theorem small_is {kv : AVal} {y : List (List AVal)} (h : preV kv = some y) {ks : List Nd} (hks : (allL ks).map Nd.text = y.map textOf) (hlim : y.length + 1 ≤ limit) (k : Int) (t : List UInt8) (p e : Int) (m : Int) :
    Call C2 172 [.agg (kid5 k t p e kv), .int .i64 m] ⟨0, []⟩ = some (.bool (Nd.small (.mk k t ks) m), ⟨0, []⟩) := by
  obtain ⟨o, ho, hN⟩ := nodes_go y.length k t p e kv y h (Nat.le_refl _) hlim
  have hst := preV_strip h
  have hu := preV_under h
  have h5 : ∀ x ∈ kid5 k t p e kv :: y, x.length = 5 ∧ x.all AVal.one = true := by
    intro x hx
    rcases List.mem_cons.1 hx with rfl | hx
    · refine ⟨rfl, ?_⟩
      have : kv.one = true := by rcases preV_cases h with ⟨rfl, _⟩ | ⟨_, _, _, rfl, _⟩ <;> rfl
      simp [kid5, one_int, one_str, this]
    · exact (pre_five.1 h (Nat.le_refl _)).1 x hx
  have hL := small_exact (y := kid5 k t p e kv :: y) (node_form h k t p e) h5 (by simpa using hlim) ho m (kid5 k t p e kv) _ 0 rfl (Nat.zero_le _)
  rw [run_of (af := f172) rfl rfl, nd_all (kv := kv) hks k t p e m]
  simp only [List.drop_zero] at hL
  generalize ((kid5 k t p e kv :: y).all fun x => decide ((textOf x).length ≤ 60)) = b at hL ⊢
  generalize hF : flat (kid5 k t p e kv :: y) = F at hN hL
  simp only [List.length_cons] at hL
  simp only [kid5] at hN
  cases b
  · simp [smLoop, f172, kid5] at hL
    rcases ho with rfl | rfl <;> simp [f172, hN, hst, hu, hL, ss, runBody, exec, exOps, exDraw, exTrace, wanted, aop, Opd.ev, Opd.taken, Frame.get, abin, aun, cmpInt, eqOp, Frame.putO, Frame.put, Frame.keep, params, kid5, AVal.known, AVal.cells, ASt.push, loadAt, cut, mk, ASt.get, getL, results, result, ASt.trunc, underL, AVal.under]
  · simp [smLoop, f172, kid5] at hL
    rcases ho with rfl | rfl <;> simp [f172, hN, hst, hu, hL, ss, runBody, exec, exOps, exDraw, exTrace, wanted, aop, Opd.ev, Opd.taken, Frame.get, abin, aun, cmpInt, eqOp, Frame.putO, Frame.put, Frame.keep, params, kid5, AVal.known, AVal.cells, ASt.push, loadAt, cut, mk, ASt.get, getL, results, result, ASt.trunc, underL, AVal.under]

end Go.Proofs.YtdhgdpokdhjanaaGreat.Abs
