/- The reference's Level, need, Parentheses: the same. -/
import Derived.Test.YtdhgdpokdhjanaaGreatX9
set_option linter.unusedSimpArgs false
set_option linter.unusedVariables false
namespace Go.Proofs.YtdhgdpokdhjanaaGreat.Abs
open Go

def l2Loop : ACode := match f225.code with
  | .seq _ (.seq _ (.seq (.seq _ (.block _ (.seq _ (.cond _ (.seq _ (.block _ (.loop b _))) _)))) _)) => b
  | _ => .bad

theorem l2_step (j : Int) (hj : j ≤ 6) {v : AVal} (hv : Call C2 183 [.int .i64 j] ⟨0, []⟩ = some (v, ⟨0, []⟩)) (hvs : v.strip = v) (hvu : v.under 0 = true) {t : List UInt8} {b : Bool} (hh : Call C2 142 [v, .str t] ⟨0, []⟩ = some (.bool b, ⟨0, []⟩))
    (k p e : Int) (kv : AVal) : Loop C2 l2Loop [1, 3] [(1, .ref 0 0), (3, .int .i64 j)] ⟨1, [.cells (kid5 k t p e kv)]⟩ =
      if b then some (.ret, [(2, .int .i64 j)], ⟨1, [.cells (kid5 k t p e kv)]⟩) else Loop C2 l2Loop [1, 3] [(1, .ref 0 0), (3, .int .i64 (IntKind.wrap .i64 (j + 1)))] ⟨1, [.cells (kid5 k t p e kv)]⟩ := by
  rw [Loop_eq]
  cases b <;> simp [stepLoop, l2Loop, f225, hj, hv, hvs, hvu, hh, runBody, exec, exOps, exDraw, exTrace, wanted, aop, Opd.ev, Opd.taken, Frame.get, st_undef, st_bool, st_int, st_str, st_nils, st_sln, st_sle, st_slm, st_ref, st_ipt, st_map, st_imap, st_agg, st_tup, rd_bool, rd_int, rd_str, rd_sln, rd_sle, rd_nils, abin, aun, cmpInt, eqOp, Frame.putO, Frame.put, Frame.keep, params, kid5, AVal.known, AVal.cells, ASt.push, loadAt, cut, mk, ASt.get, getL, results, result, ASt.trunc, underL, AVal.under, fz_int, fz_bool]

theorem l2_end (k p e : Int) (t : List UInt8) (kv : AVal) : Loop C2 l2Loop [1, 3] [(1, .ref 0 0), (3, .int .i64 7)] ⟨1, [.cells (kid5 k t p e kv)]⟩ = some (.exit 1, [(1, .ref 0 0), (3, .int .i64 7), (13, .bool false)], ⟨1, [.cells (kid5 k t p e kv)]⟩) := by
  rw [Loop_eq]
  simp [stepLoop, l2Loop, f225, runBody, exec, exOps, exDraw, exTrace, wanted, aop, Opd.ev, Opd.taken, Frame.get, st_undef, st_bool, st_int, st_str, st_nils, st_sln, st_sle, st_slm, st_ref, st_ipt, st_map, st_imap, st_agg, st_tup, rd_bool, rd_int, rd_str, rd_sln, rd_sle, rd_nils, abin, aun, cmpInt, eqOp, Frame.putO, Frame.put, Frame.keep, params, kid5, AVal.known, AVal.cells, ASt.push, loadAt, cut, mk, ASt.get, getL, results, result, ASt.trunc, underL, AVal.under, fz_int, fz_bool]

def strs (l : List (List UInt8)) : AVal := .sl (l.map AVal.str) l.length .exact
def op1 : List (List UInt8) := [[111, 114]]
def op2 : List (List UInt8) := [[97, 110, 100]]
def op4 : List (List UInt8) := [[61, 61], [33, 61], [60], [60, 61], [62], [62, 61]]
def op5 : List (List UInt8) := [[43], [45]]
def op6 : List (List UInt8) := [[42], [47], [37]]
theorem ops1 : Call C2 183 [.int .i64 1] ⟨0, []⟩ = some (strs op1, ⟨0, []⟩) := (know_holds (x := ⟨183, [.int .i64 1], strs op1⟩) all_nil (k := 10) (by kernel_rfl) : Fact.holds C2 _)
theorem ops2 : Call C2 183 [.int .i64 2] ⟨0, []⟩ = some (strs op2, ⟨0, []⟩) := (know_holds (x := ⟨183, [.int .i64 2], strs op2⟩) all_nil (k := 10) (by kernel_rfl) : Fact.holds C2 _)
theorem ops3 : Call C2 183 [.int .i64 3] ⟨0, []⟩ = some (.nils, ⟨0, []⟩) := (know_holds (x := ⟨183, [.int .i64 3], .nils⟩) all_nil (k := 10) (by kernel_rfl) : Fact.holds C2 _)
theorem ops4 : Call C2 183 [.int .i64 4] ⟨0, []⟩ = some (strs op4, ⟨0, []⟩) := (know_holds (x := ⟨183, [.int .i64 4], strs op4⟩) all_nil (k := 10) (by kernel_rfl) : Fact.holds C2 _)
theorem ops5 : Call C2 183 [.int .i64 5] ⟨0, []⟩ = some (strs op5, ⟨0, []⟩) := (know_holds (x := ⟨183, [.int .i64 5], strs op5⟩) all_nil (k := 10) (by kernel_rfl) : Fact.holds C2 _)
theorem ops6 : Call C2 183 [.int .i64 6] ⟨0, []⟩ = some (strs op6, ⟨0, []⟩) := (know_holds (x := ⟨183, [.int .i64 6], strs op6⟩) all_nil (k := 10) (by kernel_rfl) : Fact.holds C2 _)

theorem has_strs (l : List (List UInt8)) (hl : l.length ≤ limit) (t : List UInt8) : Call C2 142 [strs l, .str t] ⟨0, []⟩ = some (.bool (l.contains t), ⟨0, []⟩) := has_call l .exact (.inr rfl) hl t

/-- The level at which the loop stops. -/
def stop (t : List UInt8) : Option Int := if op1.contains t then some 1 else if op2.contains t then some 2 else if op4.contains t then some 4 else if op5.contains t then some 5 else if op6.contains t then some 6 else none

theorem stop_opl (t : List UInt8) : stop t = opl t := by
  unfold opl ops
  simp only [lookS]
  by_cases h1 : t = [111, 114]; · subst h1; rfl
  by_cases h2 : t = [97, 110, 100]; · subst h2; rfl
  by_cases h3 : t = [61, 61]; · subst h3; rfl
  by_cases h4 : t = [33, 61]; · subst h4; rfl
  by_cases h5 : t = [60]; · subst h5; rfl
  by_cases h6 : t = [60, 61]; · subst h6; rfl
  by_cases h7 : t = [62]; · subst h7; rfl
  by_cases h8 : t = [62, 61]; · subst h8; rfl
  by_cases h9 : t = [43]; · subst h9; rfl
  by_cases h10 : t = [45]; · subst h10; rfl
  by_cases h11 : t = [42]; · subst h11; rfl
  by_cases h12 : t = [47]; · subst h12; rfl
  by_cases h13 : t = [37]; · subst h13; rfl
  simp [stop, op1, op2, op4, op5, op6, h1, h2, h3, h4, h5, h6, h7, h8, h9, h10, h11, h12, h13]

theorem l2_loop (k p e : Int) (t : List UInt8) (kv : AVal) : Loop C2 l2Loop [1, 3] [(1, .ref 0 0), (3, .int .i64 1)] ⟨1, [.cells (kid5 k t p e kv)]⟩ = match opl t with
    | some j => some (.ret, [(2, .int .i64 j)], ⟨1, [.cells (kid5 k t p e kv)]⟩)
    | none => some (.exit 1, [(1, .ref 0 0), (3, .int .i64 7), (13, .bool false)], ⟨1, [.cells (kid5 k t p e kv)]⟩) := by
  have w : ∀ j : Int, 0 ≤ j → j < 100 → IntKind.wrap .i64 (j + 1) = j + 1 := fun j h1 h2 => wrap_i64 (by omega) (by omega)
  have s1 := l2_step 1 (by omega) ops1 rfl rfl (has_strs op1 (by decide) t) k p e kv
  have s2 := l2_step 2 (by omega) ops2 rfl rfl (has_strs op2 (by decide) t) k p e kv
  have s3 := l2_step 3 (by omega) ops3 rfl rfl (has_nils t) k p e kv
  have s4 := l2_step 4 (by omega) ops4 rfl rfl (has_strs op4 (by decide) t) k p e kv
  have s5 := l2_step 5 (by omega) ops5 rfl rfl (has_strs op5 (by decide) t) k p e kv
  have s6 := l2_step 6 (by omega) ops6 rfl rfl (has_strs op6 (by decide) t) k p e kv
  rw [w 1 (by omega) (by omega)] at s1
  rw [w 2 (by omega) (by omega)] at s2
  rw [w 3 (by omega) (by omega)] at s3
  rw [w 4 (by omega) (by omega)] at s4
  rw [w 5 (by omega) (by omega)] at s5
  rw [w 6 (by omega) (by omega)] at s6
  rw [← stop_opl, s1, show (1 : Int) + 1 = 2 from rfl, s2, show (2 : Int) + 1 = 3 from rfl, s3, show (3 : Int) + 1 = 4 from rfl, s4, show (4 : Int) + 1 = 5 from rfl, s5, show (5 : Int) + 1 = 6 from rfl, s6, show (6 : Int) + 1 = 7 from rfl, l2_end]
  unfold stop
  cases op1.contains t <;> cases op2.contains t <;> cases op4.contains t <;> cases op5.contains t <;> cases op6.contains t <;> rfl

set_option maxHeartbeats 4000000 in
theorem level2_call (k : Int) (t : List UInt8) (p e : Int) (kv : AVal) : Call C2 225 [.agg (kid5 k t p e kv)] ⟨0, []⟩ = some (.int .i64 (lev k t), ⟨0, []⟩) := by
  rw [run_of (af := f225) rfl rfl]
  have hE := isExpr_call k
  have hL := l2_loop k p e t kv
  unfold lev
  by_cases h1 : k < 20
  · have : ¬ 20 ≤ k := by omega
    simp [this] at hE
    simp [f225, hE, h1, runBody, exec, exOps, exDraw, exTrace, wanted, aop, Opd.ev, Opd.taken, Frame.get, st_undef, st_bool, st_int, st_str, st_nils, st_sln, st_sle, st_slm, st_ref, st_ipt, st_map, st_imap, st_agg, st_tup, rd_bool, rd_int, rd_str, rd_sln, rd_sle, rd_nils, abin, aun, cmpInt, eqOp, Frame.putO, Frame.put, Frame.keep, params, kid5, AVal.known, AVal.cells, ASt.push, loadAt, cut, mk, ASt.get, getL, results, result, ASt.trunc, underL, AVal.under, fz_int, fz_bool]
  by_cases h2 : 29 < k
  · have : ¬ k ≤ 29 := by omega
    simp [this] at hE
    simp [f225, hE, h1, h2, runBody, exec, exOps, exDraw, exTrace, wanted, aop, Opd.ev, Opd.taken, Frame.get, st_undef, st_bool, st_int, st_str, st_nils, st_sln, st_sle, st_slm, st_ref, st_ipt, st_map, st_imap, st_agg, st_tup, rd_bool, rd_int, rd_str, rd_sln, rd_sle, rd_nils, abin, aun, cmpInt, eqOp, Frame.putO, Frame.put, Frame.keep, params, kid5, AVal.known, AVal.cells, ASt.push, loadAt, cut, mk, ASt.get, getL, results, result, ASt.trunc, underL, AVal.under, fz_int, fz_bool]
  have h1' : 20 ≤ k := by omega
  have h2' : k ≤ 29 := by omega
  simp [h1', h2'] at hE
  by_cases h3 : k = 29
  · subst h3
    simp [l2Loop, f225, kid5] at hL
    cases ho : opl t with
    | none =>
      rw [ho] at hL
      simp [f225, hE, hL, runBody, exec, exOps, exDraw, exTrace, wanted, aop, Opd.ev, Opd.taken, Frame.get, st_undef, st_bool, st_int, st_str, st_nils, st_sln, st_sle, st_slm, st_ref, st_ipt, st_map, st_imap, st_agg, st_tup, rd_bool, rd_int, rd_str, rd_sln, rd_sle, rd_nils, abin, aun, cmpInt, eqOp, Frame.putO, Frame.put, Frame.keep, params, kid5, AVal.known, AVal.cells, ASt.push, loadAt, cut, mk, ASt.get, getL, results, result, ASt.trunc, underL, AVal.under, fz_int, fz_bool]
    | some j =>
      rw [ho] at hL
      simp [f225, hE, hL, runBody, exec, exOps, exDraw, exTrace, wanted, aop, Opd.ev, Opd.taken, Frame.get, st_undef, st_bool, st_int, st_str, st_nils, st_sln, st_sle, st_slm, st_ref, st_ipt, st_map, st_imap, st_agg, st_tup, rd_bool, rd_int, rd_str, rd_sln, rd_sle, rd_nils, abin, aun, cmpInt, eqOp, Frame.putO, Frame.put, Frame.keep, params, kid5, AVal.known, AVal.cells, ASt.push, loadAt, cut, mk, ASt.get, getL, results, result, ASt.trunc, underL, AVal.under, fz_int, fz_bool]
  by_cases h4 : k = 28
  · subst h4
    by_cases h5 : t = [110, 111, 116]
    · subst h5
      simp [f225, hE, runBody, exec, exOps, exDraw, exTrace, wanted, aop, Opd.ev, Opd.taken, Frame.get, st_undef, st_bool, st_int, st_str, st_nils, st_sln, st_sle, st_slm, st_ref, st_ipt, st_map, st_imap, st_agg, st_tup, rd_bool, rd_int, rd_str, rd_sln, rd_sle, rd_nils, abin, aun, cmpInt, eqOp, Frame.putO, Frame.put, Frame.keep, params, kid5, AVal.known, AVal.cells, ASt.push, loadAt, cut, mk, ASt.get, getL, results, result, ASt.trunc, underL, AVal.under, fz_int, fz_bool]
    by_cases h6 : t = [45]
    · subst h6
      simp [f225, hE, runBody, exec, exOps, exDraw, exTrace, wanted, aop, Opd.ev, Opd.taken, Frame.get, st_undef, st_bool, st_int, st_str, st_nils, st_sln, st_sle, st_slm, st_ref, st_ipt, st_map, st_imap, st_agg, st_tup, rd_bool, rd_int, rd_str, rd_sln, rd_sle, rd_nils, abin, aun, cmpInt, eqOp, Frame.putO, Frame.put, Frame.keep, params, kid5, AVal.known, AVal.cells, ASt.push, loadAt, cut, mk, ASt.get, getL, results, result, ASt.trunc, underL, AVal.under, fz_int, fz_bool]
    · simp [f225, hE, h5, h6, runBody, exec, exOps, exDraw, exTrace, wanted, aop, Opd.ev, Opd.taken, Frame.get, st_undef, st_bool, st_int, st_str, st_nils, st_sln, st_sle, st_slm, st_ref, st_ipt, st_map, st_imap, st_agg, st_tup, rd_bool, rd_int, rd_str, rd_sln, rd_sle, rd_nils, abin, aun, cmpInt, eqOp, Frame.putO, Frame.put, Frame.keep, params, kid5, AVal.known, AVal.cells, ASt.push, loadAt, cut, mk, ASt.get, getL, results, result, ASt.trunc, underL, AVal.under, fz_int, fz_bool]
  · simp [f225, hE, h1, h2, h3, h4, runBody, exec, exOps, exDraw, exTrace, wanted, aop, Opd.ev, Opd.taken, Frame.get, st_undef, st_bool, st_int, st_str, st_nils, st_sln, st_sle, st_slm, st_ref, st_ipt, st_map, st_imap, st_agg, st_tup, rd_bool, rd_int, rd_str, rd_sln, rd_sle, rd_nils, abin, aun, cmpInt, eqOp, Frame.putO, Frame.put, Frame.keep, params, kid5, AVal.known, AVal.cells, ASt.push, loadAt, cut, mk, ASt.get, getL, results, result, ASt.trunc, underL, AVal.under, fz_int, fz_bool]

def needV (k : Int) (l i : Int) : Int := if l = 8 ∨ l = 0 then 1 else if k = 28 then l else if l = 4 ∨ i ≠ 0 then IntKind.wrap .i64 (l + 1) else l

set_option maxHeartbeats 4000000 in
theorem need_call (k : Int) (t : List UInt8) (p e : Int) (kv : AVal) (hst : kv.strip = kv) (hu : kv.under 0 = true) (i : Int) : Call C2 234 [.agg (kid5 k t p e kv), .int .i64 i] ⟨0, []⟩ = some (.int .i64 (needV k (lev k t) i), ⟨0, []⟩) := by
  rw [run_of (af := f234) rfl rfl]
  have hc := level2_call k t p e kv
  simp only [kid5] at hc
  have hopl : ∀ j, opl t = some j → j = 1 ∨ j = 2 ∨ j = 4 ∨ j = 5 ∨ j = 6 := fun j hj => by
    rw [← stop_opl] at hj
    unfold stop at hj
    split at hj <;> try (cases hj; omega)
    split at hj <;> try (cases hj; omega)
    split at hj <;> try (cases hj; omega)
    split at hj <;> try (cases hj; omega)
    split at hj <;> cases hj
    omega
  have hlev : (k = 28 ∧ (lev k t = 3 ∨ lev k t = 7 ∨ lev k t = 8)) ∨ (k = 29 ∧ (lev k t = 1 ∨ lev k t = 2 ∨ lev k t = 4 ∨ lev k t = 5 ∨ lev k t = 6 ∨ lev k t = 8)) ∨ (k ≠ 28 ∧ k ≠ 29 ∧ (lev k t = 0 ∨ lev k t = 8)) := by
    unfold lev
    by_cases h3 : k = 29
    · subst h3
      cases ho : opl t with
      | none => simp
      | some j => have := hopl j ho; simp; omega
    by_cases h4 : k = 28
    · subst h4
      by_cases h5 : t = [110, 111, 116]
      · simp [h5]
      · by_cases h6 : t = [45]
        · simp [h6]
        · simp [h5, h6]
    · right; right
      refine ⟨h4, h3, ?_⟩
      split
      · simp
      · simp [h3, h4]
  generalize lev k t = l at hc hlev
  unfold needV
  rcases hlev with ⟨rfl, hl⟩ | ⟨rfl, hl⟩ | ⟨h1, h2, hl⟩
  · rcases hl with rfl | rfl | rfl <;> simp [f234, hc, hst, hu, runBody, exec, exOps, exDraw, exTrace, wanted, aop, Opd.ev, Opd.taken, Frame.get, st_undef, st_bool, st_int, st_str, st_nils, st_sln, st_sle, st_slm, st_ref, st_ipt, st_map, st_imap, st_agg, st_tup, rd_bool, rd_int, rd_str, rd_sln, rd_sle, rd_nils, abin, aun, cmpInt, eqOp, Frame.putO, Frame.put, Frame.keep, params, kid5, AVal.known, AVal.cells, ASt.push, loadAt, cut, mk, ASt.get, getL, results, result, ASt.trunc, underL, AVal.under, fz_int, fz_bool]
  · by_cases h5 : i = 0
    · subst h5
      rcases hl with rfl | rfl | rfl | rfl | rfl | rfl <;> simp [f234, hc, hst, hu, runBody, exec, exOps, exDraw, exTrace, wanted, aop, Opd.ev, Opd.taken, Frame.get, st_undef, st_bool, st_int, st_str, st_nils, st_sln, st_sle, st_slm, st_ref, st_ipt, st_map, st_imap, st_agg, st_tup, rd_bool, rd_int, rd_str, rd_sln, rd_sle, rd_nils, abin, aun, cmpInt, eqOp, Frame.putO, Frame.put, Frame.keep, params, kid5, AVal.known, AVal.cells, ASt.push, loadAt, cut, mk, ASt.get, getL, results, result, ASt.trunc, underL, AVal.under, fz_int, fz_bool]
      all_goals rfl
    · rcases hl with rfl | rfl | rfl | rfl | rfl | rfl <;> simp [f234, hc, hst, hu, h5, runBody, exec, exOps, exDraw, exTrace, wanted, aop, Opd.ev, Opd.taken, Frame.get, st_undef, st_bool, st_int, st_str, st_nils, st_sln, st_sle, st_slm, st_ref, st_ipt, st_map, st_imap, st_agg, st_tup, rd_bool, rd_int, rd_str, rd_sln, rd_sle, rd_nils, abin, aun, cmpInt, eqOp, Frame.putO, Frame.put, Frame.keep, params, kid5, AVal.known, AVal.cells, ASt.push, loadAt, cut, mk, ASt.get, getL, results, result, ASt.trunc, underL, AVal.under, fz_int, fz_bool]
      all_goals rfl
  · rcases hl with rfl | rfl <;> simp [f234, hc, hst, hu, h1, h2, runBody, exec, exOps, exDraw, exTrace, wanted, aop, Opd.ev, Opd.taken, Frame.get, st_undef, st_bool, st_int, st_str, st_nils, st_sln, st_sle, st_slm, st_ref, st_ipt, st_map, st_imap, st_agg, st_tup, rd_bool, rd_int, rd_str, rd_sln, rd_sle, rd_nils, abin, aun, cmpInt, eqOp, Frame.putO, Frame.put, Frame.keep, params, kid5, AVal.known, AVal.cells, ASt.push, loadAt, cut, mk, ASt.get, getL, results, result, ASt.trunc, underL, AVal.under, fz_int, fz_bool]

set_option maxHeartbeats 4000000 in
theorem paren2_call (k : Int) (t : List UInt8) (p e : Int) (kv : AVal) (hst : kv.strip = kv) (hu : kv.under 0 = true) (i : Int) (k2 : Int) (t2 : List UInt8) (p2 e2 : Int) (kv2 : AVal) (hst2 : kv2.strip = kv2) (hu2 : kv2.under 0 = true) :
    Call C2 226 [.agg (kid5 k t p e kv), .int .i64 i, .agg (kid5 k2 t2 p2 e2 kv2)] ⟨0, []⟩ = some (.bool (decide (20 ≤ k2 ∧ k2 ≤ 29 ∧ lev k2 t2 < needV k (lev k t) i)), ⟨0, []⟩) := by
  rw [run_of (af := f226) rfl rfl]
  have hE := isExpr_call k2
  have hc := level2_call k2 t2 p2 e2 kv2
  have hm := need_call k t p e kv hst hu i
  simp only [kid5] at hc hm
  generalize lev k2 t2 = l at hc
  generalize needV k (lev k t) i = m at hm
  by_cases h : 20 ≤ k2 ∧ k2 ≤ 29
  · simp [h.1, h.2] at hE
    simp (maxSteps := 2000000) [f226, hE, hc, hm, hst, hu, hst2, hu2, h.1, h.2, runBody, exec, exOps, exDraw, exTrace, wanted, aop, Opd.ev, Opd.taken, Frame.get, st_undef, st_bool, st_int, st_str, st_nils, st_sln, st_sle, st_slm, st_ref, st_ipt, st_map, st_imap, st_agg, st_tup, rd_bool, rd_int, rd_str, rd_sln, rd_sle, rd_nils, abin, aun, cmpInt, eqOp, Frame.putO, Frame.put, Frame.keep, params, kid5, AVal.known, AVal.cells, ASt.push, loadAt, cut, mk, ASt.get, getL, results, result, ASt.trunc, underL, AVal.under, fz_int, fz_bool]
  · have hd : decide (20 ≤ k2 ∧ k2 ≤ 29) = false := by simpa using h
    rw [hd] at hE
    have h2 : ¬ (20 ≤ k2 ∧ k2 ≤ 29 ∧ l < m) := fun hh => h ⟨hh.1, hh.2.1⟩
    simp (maxSteps := 2000000) [f226, hE, hst, hu, hst2, hu2, h2, runBody, exec, exOps, exDraw, exTrace, wanted, aop, Opd.ev, Opd.taken, Frame.get, st_undef, st_bool, st_int, st_str, st_nils, st_sln, st_sle, st_slm, st_ref, st_ipt, st_map, st_imap, st_agg, st_tup, rd_bool, rd_int, rd_str, rd_sln, rd_sle, rd_nils, abin, aun, cmpInt, eqOp, Frame.putO, Frame.put, Frame.keep, params, kid5, AVal.known, AVal.cells, ASt.push, loadAt, cut, mk, ASt.get, getL, results, result, ASt.trunc, underL, AVal.under, fz_int, fz_bool]

end Go.Proofs.YtdhgdpokdhjanaaGreat.Abs
