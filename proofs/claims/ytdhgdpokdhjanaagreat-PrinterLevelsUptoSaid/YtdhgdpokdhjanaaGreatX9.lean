/- The reference's levels. -/
import Derived.Test.YtdhgdpokdhjanaaGreatX8
set_option linter.unusedSimpArgs false
set_option linter.unusedVariables false
namespace Go.Proofs.YtdhgdpokdhjanaaGreat.Abs
open Go

theorem paren_call (k : Int) (t : List UInt8) (p e : Int) (kv : AVal) (hst : kv.strip = kv) (hu : kv.under 0 = true) (i : Int) (k2 : Int) (t2 : List UInt8) (p2 e2 : Int) (kv2 : AVal) (hst2 : kv2.strip = kv2) (hu2 : kv2.under 0 = true) (m : Int)
    (hm : Call C2 345 [.agg (kid5 k t p e kv), .int .i64 i] ⟨0, []⟩ = some (.int .i64 m, ⟨0, []⟩)) :
    Call C2 341 [.agg (kid5 k t p e kv), .int .i64 i, .agg (kid5 k2 t2 p2 e2 kv2)] ⟨0, []⟩ = some (.bool (decide (20 ≤ k2 ∧ k2 ≤ 29 ∧ lev k2 t2 < m)), ⟨0, []⟩) := by
  rw [run_of (af := f341) rfl rfl]
  have hc := level_call k2 t2 p2 e2 kv2
  simp only [kid5] at hc hm
  generalize lev k2 t2 = l at hc
  by_cases h1 : k2 < 20
  · have : ¬ (20 ≤ k2) := by omega
    simp [f341, hc, hm, hst, hu, hst2, hu2, h1, this, runBody, exec, exOps, exDraw, exTrace, wanted, aop, Opd.ev, Opd.taken, Frame.get, st_undef, st_bool, st_int, st_str, st_nils, st_sln, st_sle, st_slm, st_ref, st_ipt, st_map, st_imap, st_agg, st_tup, rd_bool, rd_int, rd_str, rd_sln, rd_sle, rd_nils, abin, aun, cmpInt, eqOp, Frame.putO, Frame.put, Frame.keep, params, kid5, AVal.known, AVal.cells, ASt.push, loadAt, cut, mk, ASt.get, getL, results, result, ASt.trunc, underL, AVal.under, fz_int, fz_bool]
  by_cases h2 : 29 < k2
  · have : ¬ (k2 ≤ 29) := by omega
    simp [f341, hc, hm, hst, hu, hst2, hu2, h1, h2, this, runBody, exec, exOps, exDraw, exTrace, wanted, aop, Opd.ev, Opd.taken, Frame.get, st_undef, st_bool, st_int, st_str, st_nils, st_sln, st_sle, st_slm, st_ref, st_ipt, st_map, st_imap, st_agg, st_tup, rd_bool, rd_int, rd_str, rd_sln, rd_sle, rd_nils, abin, aun, cmpInt, eqOp, Frame.putO, Frame.put, Frame.keep, params, kid5, AVal.known, AVal.cells, ASt.push, loadAt, cut, mk, ASt.get, getL, results, result, ASt.trunc, underL, AVal.under, fz_int, fz_bool]
  · have h3 : 20 ≤ k2 := by omega
    have h4 : k2 ≤ 29 := by omega
    simp [f341, hc, hm, hst, hu, hst2, hu2, h1, h2, h3, h4, runBody, exec, exOps, exDraw, exTrace, wanted, aop, Opd.ev, Opd.taken, Frame.get, st_undef, st_bool, st_int, st_str, st_nils, st_sln, st_sle, st_slm, st_ref, st_ipt, st_map, st_imap, st_agg, st_tup, rd_bool, rd_int, rd_str, rd_sln, rd_sle, rd_nils, abin, aun, cmpInt, eqOp, Frame.putO, Frame.put, Frame.keep, params, kid5, AVal.known, AVal.cells, ASt.push, loadAt, cut, mk, ASt.get, getL, results, result, ASt.trunc, underL, AVal.under, fz_int, fz_bool]

theorem isExpr_call (k : Int) : Call C2 163 [.int .i64 k] ⟨0, []⟩ = some (.bool (decide (20 ≤ k ∧ k ≤ 29)), ⟨0, []⟩) := by
  rw [run_of (af := f163) rfl rfl]
  by_cases h1 : 20 ≤ k
  · by_cases h2 : k ≤ 29
    · simp [f163, h1, h2, runBody, exec, exOps, exDraw, exTrace, wanted, aop, Opd.ev, Opd.taken, Frame.get, st_undef, st_bool, st_int, st_str, st_nils, st_sln, st_sle, st_slm, st_ref, st_ipt, st_map, st_imap, st_agg, st_tup, rd_bool, rd_int, rd_str, rd_sln, rd_sle, rd_nils, abin, aun, cmpInt, eqOp, Frame.putO, Frame.put, Frame.keep, params, kid5, AVal.known, AVal.cells, ASt.push, loadAt, cut, mk, ASt.get, getL, results, result, ASt.trunc, underL, AVal.under, fz_int, fz_bool]
    · simp [f163, h1, h2, runBody, exec, exOps, exDraw, exTrace, wanted, aop, Opd.ev, Opd.taken, Frame.get, st_undef, st_bool, st_int, st_str, st_nils, st_sln, st_sle, st_slm, st_ref, st_ipt, st_map, st_imap, st_agg, st_tup, rd_bool, rd_int, rd_str, rd_sln, rd_sle, rd_nils, abin, aun, cmpInt, eqOp, Frame.putO, Frame.put, Frame.keep, params, kid5, AVal.known, AVal.cells, ASt.push, loadAt, cut, mk, ASt.get, getL, results, result, ASt.trunc, underL, AVal.under, fz_int, fz_bool]
  · simp [f163, h1, runBody, exec, exOps, exDraw, exTrace, wanted, aop, Opd.ev, Opd.taken, Frame.get, st_undef, st_bool, st_int, st_str, st_nils, st_sln, st_sle, st_slm, st_ref, st_ipt, st_map, st_imap, st_agg, st_tup, rd_bool, rd_int, rd_str, rd_sln, rd_sle, rd_nils, abin, aun, cmpInt, eqOp, Frame.putO, Frame.put, Frame.keep, params, kid5, AVal.known, AVal.cells, ASt.push, loadAt, cut, mk, ASt.get, getL, results, result, ASt.trunc, underL, AVal.under, fz_int, fz_bool]

def hasLoop : ACode := match f142.code with
  | .seq _ (.seq (.seq _ (.block _ (.loop b _))) _) => b
  | _ => .bad

theorem cut_strs {l : List (List UInt8)} {i : Nat} {x : List UInt8} {r : List (List UInt8)} (h : l.drop i = x :: r) : cut (l.map AVal.str) i 1 = some [.str x] := by
  have hlen : i + 1 ≤ l.length := by
    have := congrArg List.length h
    simp only [List.length_drop, List.length_cons] at this
    omega
  unfold cut
  rw [if_pos (by simpa using hlen), ← List.map_drop, h]
  rfl

theorem has_loop (l : List (List UInt8)) (o : Own) (ho : o = .none ∨ o = .exact) (hl : l.length ≤ limit) (t : List UInt8) : ∀ (r : List (List UInt8)) (i : Nat), l.drop i = r → i ≤ l.length →
    Loop C2 hasLoop [0, 1, 5] [(0, .sl (l.map AVal.str) l.length o), (1, .str t), (5, .int .i64 i)] ⟨0, []⟩ =
      if r.contains t then some (.ret, [(4, .bool true)], ⟨0, []⟩) else some (.exit 0, [(0, .sl (l.map AVal.str) l.length o), (1, .str t), (5, .int .i64 l.length), (9, .bool false)], ⟨0, []⟩)
  | [], i, h, hi => by
    have : i = l.length := by
      have := congrArg List.length h
      simp only [List.length_drop, List.length_nil] at this
      omega
    subst this
    rw [Loop_eq]
    rcases ho with rfl | rfl <;> simp [stepLoop, hasLoop, f142, runBody, exec, exOps, exDraw, exTrace, wanted, aop, Opd.ev, Opd.taken, Frame.get, st_undef, st_bool, st_int, st_str, st_nils, st_sln, st_sle, st_slm, st_ref, st_ipt, st_map, st_imap, st_agg, st_tup, rd_bool, rd_int, rd_str, rd_sln, rd_sle, rd_nils, abin, aun, cmpInt, eqOp, Frame.putO, Frame.put, Frame.keep, params, kid5, AVal.known, AVal.cells, ASt.push, loadAt, mk, ASt.get, getL, results, result, ASt.trunc, underL, AVal.under, fz_int, fz_bool]
  | x :: r, i, h, hi => by
    have hlt : i < l.length := by
      have := congrArg List.length h
      simp only [List.length_drop, List.length_cons] at this
      omega
    have hcut := cut_strs h
    have hw : IntKind.wrap .i64 ((i : Int) + 1) = ((i + 1 : Nat) : Int) := by
      rw [wrap_i64 (by omega) (by unfold limit at hl; omega)]; rfl
    have ih := has_loop l o ho hl t r (i + 1) (by rw [← List.drop_drop, h]; rfl) (by omega)
    rw [Loop_eq]
    by_cases hx : x = t
    · subst hx
      rcases ho with rfl | rfl <;> simp [stepLoop, hasLoop, f142, hlt, hcut, runBody, exec, exOps, exDraw, exTrace, wanted, aop, Opd.ev, Opd.taken, Frame.get, st_undef, st_bool, st_int, st_str, st_nils, st_sln, st_sle, st_slm, st_ref, st_ipt, st_map, st_imap, st_agg, st_tup, rd_bool, rd_int, rd_str, rd_sln, rd_sle, rd_nils, abin, aun, cmpInt, eqOp, Frame.putO, Frame.put, Frame.keep, params, kid5, AVal.known, AVal.cells, ASt.push, loadAt, mk, ASt.get, getL, results, result, ASt.trunc, underL, AVal.under, fz_int, fz_bool]
    · have hx2 : ¬ t = x := fun e => hx e.symm
      rcases ho with rfl | rfl
      · simp [hasLoop, f142] at ih
        simp [stepLoop, hasLoop, f142, hlt, hcut, hx, hx2, hw, ih, runBody, exec, exOps, exDraw, exTrace, wanted, aop, Opd.ev, Opd.taken, Frame.get, st_undef, st_bool, st_int, st_str, st_nils, st_sln, st_sle, st_slm, st_ref, st_ipt, st_map, st_imap, st_agg, st_tup, rd_bool, rd_int, rd_str, rd_sln, rd_sle, rd_nils, abin, aun, cmpInt, eqOp, Frame.putO, Frame.put, Frame.keep, params, kid5, AVal.known, AVal.cells, ASt.push, loadAt, mk, ASt.get, getL, results, result, ASt.trunc, underL, AVal.under, fz_int, fz_bool]
      · simp [hasLoop, f142] at ih
        simp [stepLoop, hasLoop, f142, hlt, hcut, hx, hx2, hw, ih, runBody, exec, exOps, exDraw, exTrace, wanted, aop, Opd.ev, Opd.taken, Frame.get, st_undef, st_bool, st_int, st_str, st_nils, st_sln, st_sle, st_slm, st_ref, st_ipt, st_map, st_imap, st_agg, st_tup, rd_bool, rd_int, rd_str, rd_sln, rd_sle, rd_nils, abin, aun, cmpInt, eqOp, Frame.putO, Frame.put, Frame.keep, params, kid5, AVal.known, AVal.cells, ASt.push, loadAt, mk, ASt.get, getL, results, result, ASt.trunc, underL, AVal.under, fz_int, fz_bool]

theorem has_call (l : List (List UInt8)) (o : Own) (ho : o = .none ∨ o = .exact) (hl : l.length ≤ limit) (t : List UInt8) : Call C2 142 [.sl (l.map AVal.str) l.length o, .str t] ⟨0, []⟩ = some (.bool (l.contains t), ⟨0, []⟩) := by
  rw [run_of (af := f142) rfl rfl]
  have hL := has_loop l o ho hl t l 0 rfl (Nat.zero_le _)
  simp [hasLoop, f142] at hL
  by_cases h : l.contains t = true
  · have h2 : t ∈ l := by simpa using h
    rcases ho with rfl | rfl <;> simp [f142, hL, h2, runBody, exec, exOps, exDraw, exTrace, wanted, aop, Opd.ev, Opd.taken, Frame.get, st_undef, st_bool, st_int, st_str, st_nils, st_sln, st_sle, st_slm, st_ref, st_ipt, st_map, st_imap, st_agg, st_tup, rd_bool, rd_int, rd_str, rd_sln, rd_sle, rd_nils, abin, aun, cmpInt, eqOp, Frame.putO, Frame.put, Frame.keep, params, kid5, AVal.known, AVal.cells, ASt.push, loadAt, mk, ASt.get, getL, results, result, ASt.trunc, underL, AVal.under, fz_int, fz_bool]
  · have h2 : ¬ t ∈ l := by simpa using h
    rcases ho with rfl | rfl <;> simp [f142, hL, h2, runBody, exec, exOps, exDraw, exTrace, wanted, aop, Opd.ev, Opd.taken, Frame.get, st_undef, st_bool, st_int, st_str, st_nils, st_sln, st_sle, st_slm, st_ref, st_ipt, st_map, st_imap, st_agg, st_tup, rd_bool, rd_int, rd_str, rd_sln, rd_sle, rd_nils, abin, aun, cmpInt, eqOp, Frame.putO, Frame.put, Frame.keep, params, kid5, AVal.known, AVal.cells, ASt.push, loadAt, mk, ASt.get, getL, results, result, ASt.trunc, underL, AVal.under, fz_int, fz_bool]
theorem has_nils (t : List UInt8) : Call C2 142 [.nils, .str t] ⟨0, []⟩ = some (.bool false, ⟨0, []⟩) := by
  rw [run_of (af := f142) rfl rfl]
  have hL : Loop C2 hasLoop [0, 1, 5] [(0, .nils), (1, .str t), (5, .int .i64 0)] ⟨0, []⟩ = some (.exit 0, [(0, .nils), (1, .str t), (5, .int .i64 0), (9, .bool false)], ⟨0, []⟩) := by
    rw [Loop_eq]
    simp [stepLoop, hasLoop, f142, runBody, exec, exOps, exDraw, exTrace, wanted, aop, Opd.ev, Opd.taken, Frame.get, st_undef, st_bool, st_int, st_str, st_nils, st_sln, st_sle, st_slm, st_ref, st_ipt, st_map, st_imap, st_agg, st_tup, rd_bool, rd_int, rd_str, rd_sln, rd_sle, rd_nils, abin, aun, cmpInt, eqOp, Frame.putO, Frame.put, Frame.keep, params, kid5, AVal.known, AVal.cells, ASt.push, loadAt, mk, ASt.get, getL, results, result, ASt.trunc, underL, AVal.under, fz_int, fz_bool]
  simp [hasLoop, f142] at hL
  simp [f142, hL, runBody, exec, exOps, exDraw, exTrace, wanted, aop, Opd.ev, Opd.taken, Frame.get, st_undef, st_bool, st_int, st_str, st_nils, st_sln, st_sle, st_slm, st_ref, st_ipt, st_map, st_imap, st_agg, st_tup, rd_bool, rd_int, rd_str, rd_sln, rd_sle, rd_nils, abin, aun, cmpInt, eqOp, Frame.putO, Frame.put, Frame.keep, params, kid5, AVal.known, AVal.cells, ASt.push, loadAt, mk, ASt.get, getL, results, result, ASt.trunc, underL, AVal.under, fz_int, fz_bool]

end Go.Proofs.YtdhgdpokdhjanaaGreat.Abs
