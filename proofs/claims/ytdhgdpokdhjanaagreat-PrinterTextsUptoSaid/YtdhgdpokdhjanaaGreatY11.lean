/- The reference's test of kids; written by a program (mkkid.py). -/
import Derived.Test.YtdhgdpokdhjanaaGreatY10
set_option linter.unusedSimpArgs false
set_option linter.unusedVariables false
namespace Go.Proofs.YtdhgdpokdhjanaaGreat.Abs
open Go

section
variable (c : Int) (t : List UInt8) (p e : Int) (kv : AVal)

theorem kid_2 (i : Int) : Call C2 178 [.int .i64 2, .int .i64 i, .agg (kid5 c t p e kv)] ⟨0, []⟩ = some (.bool (KP.test (.one [3, 5]) c), ⟨0, []⟩) := by
  rw [run_of (af := f178) rfl rfl, v_run rfl]
  by_cases h3 : c = 3
  · subst h3; simp [f178, KP.test, kid5, vv, Frame.put, keepF, Opd.ev, Opd.taken, aun, params, AVal.cells, AVal.known, entries, ASt.push, loadAt, mk, ASt.get, getL, results, result, ASt.trunc, underL, AVal.under, Own.under, storeAt, mayPutL, mayPut, splice, ASt.set, setL, fill, zeros, List.map_cons, List.map_nil, List.nil_append, List.append_nil, Option.map_some, Option.bind_some]
  by_cases h5 : c = 5
  · subst h5; simp [f178, KP.test, kid5, vv, Frame.put, keepF, Opd.ev, Opd.taken, aun, params, AVal.cells, AVal.known, entries, ASt.push, loadAt, mk, ASt.get, getL, results, result, ASt.trunc, underL, AVal.under, Own.under, storeAt, mayPutL, mayPut, splice, ASt.set, setL, fill, zeros, List.map_cons, List.map_nil, List.nil_append, List.append_nil, Option.map_some, Option.bind_some]
  simp [f178, KP.test, h3, h5, kid5, vv, Frame.put, keepF, Opd.ev, Opd.taken, aun, params, AVal.cells, AVal.known, entries, ASt.push, loadAt, mk, ASt.get, getL, results, result, ASt.trunc, underL, AVal.under, Own.under, storeAt, mayPutL, mayPut, splice, ASt.set, setL, fill, zeros, List.map_cons, List.map_nil, List.nil_append, List.append_nil, Option.map_some, Option.bind_some]
theorem kid_3 (i : Int) : Call C2 178 [.int .i64 3, .int .i64 i, .agg (kid5 c t p e kv)] ⟨0, []⟩ = some (.bool (KP.test (.one [4]) c), ⟨0, []⟩) := by
  rw [run_of (af := f178) rfl rfl, v_run rfl]
  by_cases h4 : c = 4
  · subst h4; simp [f178, KP.test, kid5, vv, Frame.put, keepF, Opd.ev, Opd.taken, aun, params, AVal.cells, AVal.known, entries, ASt.push, loadAt, mk, ASt.get, getL, results, result, ASt.trunc, underL, AVal.under, Own.under, storeAt, mayPutL, mayPut, splice, ASt.set, setL, fill, zeros, List.map_cons, List.map_nil, List.nil_append, List.append_nil, Option.map_some, Option.bind_some]
  simp [f178, KP.test, h4, kid5, vv, Frame.put, keepF, Opd.ev, Opd.taken, aun, params, AVal.cells, AVal.known, entries, ASt.push, loadAt, mk, ASt.get, getL, results, result, ASt.trunc, underL, AVal.under, Own.under, storeAt, mayPutL, mayPut, splice, ASt.set, setL, fill, zeros, List.map_cons, List.map_nil, List.nil_append, List.append_nil, Option.map_some, Option.bind_some]
theorem kid_5_0 : Call C2 178 [.int .i64 5, .int .i64 0, .agg (kid5 c t p e kv)] ⟨0, []⟩ = some (.bool (KP.test (.one [6]) c), ⟨0, []⟩) := by
  rw [run_of (af := f178) rfl rfl, v_run rfl]
  by_cases h6 : c = 6
  · subst h6; simp [f178, KP.test, kid5, vv, Frame.put, keepF, Opd.ev, Opd.taken, aun, params, AVal.cells, AVal.known, entries, ASt.push, loadAt, mk, ASt.get, getL, results, result, ASt.trunc, underL, AVal.under, Own.under, storeAt, mayPutL, mayPut, splice, ASt.set, setL, fill, zeros, List.map_cons, List.map_nil, List.nil_append, List.append_nil, Option.map_some, Option.bind_some]
  simp [f178, KP.test, h6, kid5, vv, Frame.put, keepF, Opd.ev, Opd.taken, aun, params, AVal.cells, AVal.known, entries, ASt.push, loadAt, mk, ASt.get, getL, results, result, ASt.trunc, underL, AVal.under, Own.under, storeAt, mayPutL, mayPut, splice, ASt.set, setL, fill, zeros, List.map_cons, List.map_nil, List.nil_append, List.append_nil, Option.map_some, Option.bind_some]
theorem kid_5_1 : Call C2 178 [.int .i64 5, .int .i64 1, .agg (kid5 c t p e kv)] ⟨0, []⟩ = some (.bool (KP.test (.opt .typ) c), ⟨0, []⟩) := by
  rw [run_of (af := f178) rfl rfl, v_run rfl]
  have hc := typ2_call c
  have hd : KP.test (.opt .typ) c = (decide (c = 0) || decide (c = 9 ∨ c = 10)) := rfl
  rw [hd]
  by_cases h0 : c = 0
  · subst h0; simp [f178, hc, kid5, vv, Frame.put, keepF, Opd.ev, Opd.taken, aun, params, AVal.cells, AVal.known, entries, ASt.push, loadAt, mk, ASt.get, getL, results, result, ASt.trunc, underL, AVal.under, Own.under, storeAt, mayPutL, mayPut, splice, ASt.set, setL, fill, zeros, List.map_cons, List.map_nil, List.nil_append, List.append_nil, Option.map_some, Option.bind_some]
  generalize decide (c = 9 ∨ c = 10) = q at hc ⊢
  cases q <;> simp [f178, hc, h0, kid5, vv, Frame.put, keepF, Opd.ev, Opd.taken, aun, params, AVal.cells, AVal.known, entries, ASt.push, loadAt, mk, ASt.get, getL, results, result, ASt.trunc, underL, AVal.under, Own.under, storeAt, mayPutL, mayPut, splice, ASt.set, setL, fill, zeros, List.map_cons, List.map_nil, List.nil_append, List.append_nil, Option.map_some, Option.bind_some]
theorem kid_5_2 : Call C2 178 [.int .i64 5, .int .i64 2, .agg (kid5 c t p e kv)] ⟨0, []⟩ = some (.bool (KP.test (.one [11]) c), ⟨0, []⟩) := by
  rw [run_of (af := f178) rfl rfl, v_run rfl]
  by_cases h11 : c = 11
  · subst h11; simp [f178, KP.test, kid5, vv, Frame.put, keepF, Opd.ev, Opd.taken, aun, params, AVal.cells, AVal.known, entries, ASt.push, loadAt, mk, ASt.get, getL, results, result, ASt.trunc, underL, AVal.under, Own.under, storeAt, mayPutL, mayPut, splice, ASt.set, setL, fill, zeros, List.map_cons, List.map_nil, List.nil_append, List.append_nil, Option.map_some, Option.bind_some]
  simp [f178, KP.test, h11, kid5, vv, Frame.put, keepF, Opd.ev, Opd.taken, aun, params, AVal.cells, AVal.known, entries, ASt.push, loadAt, mk, ASt.get, getL, results, result, ASt.trunc, underL, AVal.under, Own.under, storeAt, mayPutL, mayPut, splice, ASt.set, setL, fill, zeros, List.map_cons, List.map_nil, List.nil_append, List.append_nil, Option.map_some, Option.bind_some]
theorem kid_6 (i : Int) : Call C2 178 [.int .i64 6, .int .i64 i, .agg (kid5 c t p e kv)] ⟨0, []⟩ = some (.bool (KP.test (.one [7, 8]) c), ⟨0, []⟩) := by
  rw [run_of (af := f178) rfl rfl, v_run rfl]
  by_cases h7 : c = 7
  · subst h7; simp [f178, KP.test, kid5, vv, Frame.put, keepF, Opd.ev, Opd.taken, aun, params, AVal.cells, AVal.known, entries, ASt.push, loadAt, mk, ASt.get, getL, results, result, ASt.trunc, underL, AVal.under, Own.under, storeAt, mayPutL, mayPut, splice, ASt.set, setL, fill, zeros, List.map_cons, List.map_nil, List.nil_append, List.append_nil, Option.map_some, Option.bind_some]
  by_cases h8 : c = 8
  · subst h8; simp [f178, KP.test, kid5, vv, Frame.put, keepF, Opd.ev, Opd.taken, aun, params, AVal.cells, AVal.known, entries, ASt.push, loadAt, mk, ASt.get, getL, results, result, ASt.trunc, underL, AVal.under, Own.under, storeAt, mayPutL, mayPut, splice, ASt.set, setL, fill, zeros, List.map_cons, List.map_nil, List.nil_append, List.append_nil, Option.map_some, Option.bind_some]
  simp [f178, KP.test, h7, h8, kid5, vv, Frame.put, keepF, Opd.ev, Opd.taken, aun, params, AVal.cells, AVal.known, entries, ASt.push, loadAt, mk, ASt.get, getL, results, result, ASt.trunc, underL, AVal.under, Own.under, storeAt, mayPutL, mayPut, splice, ASt.set, setL, fill, zeros, List.map_cons, List.map_nil, List.nil_append, List.append_nil, Option.map_some, Option.bind_some]
theorem kid_7 (i : Int) : Call C2 178 [.int .i64 7, .int .i64 i, .agg (kid5 c t p e kv)] ⟨0, []⟩ = some (.bool (KP.test (.opt .typ) c), ⟨0, []⟩) := by
  rw [run_of (af := f178) rfl rfl, v_run rfl]
  have hc := typ2_call c
  have hd : KP.test (.opt .typ) c = (decide (c = 0) || decide (c = 9 ∨ c = 10)) := rfl
  rw [hd]
  by_cases h0 : c = 0
  · subst h0; simp [f178, hc, kid5, vv, Frame.put, keepF, Opd.ev, Opd.taken, aun, params, AVal.cells, AVal.known, entries, ASt.push, loadAt, mk, ASt.get, getL, results, result, ASt.trunc, underL, AVal.under, Own.under, storeAt, mayPutL, mayPut, splice, ASt.set, setL, fill, zeros, List.map_cons, List.map_nil, List.nil_append, List.append_nil, Option.map_some, Option.bind_some]
  generalize decide (c = 9 ∨ c = 10) = q at hc ⊢
  cases q <;> simp [f178, hc, h0, kid5, vv, Frame.put, keepF, Opd.ev, Opd.taken, aun, params, AVal.cells, AVal.known, entries, ASt.push, loadAt, mk, ASt.get, getL, results, result, ASt.trunc, underL, AVal.under, Own.under, storeAt, mayPutL, mayPut, splice, ASt.set, setL, fill, zeros, List.map_cons, List.map_nil, List.nil_append, List.append_nil, Option.map_some, Option.bind_some]
theorem kid_8 (i : Int) : Call C2 178 [.int .i64 8, .int .i64 i, .agg (kid5 c t p e kv)] ⟨0, []⟩ = some (.bool (KP.test (.opt .typ) c), ⟨0, []⟩) := by
  rw [run_of (af := f178) rfl rfl, v_run rfl]
  have hc := typ2_call c
  have hd : KP.test (.opt .typ) c = (decide (c = 0) || decide (c = 9 ∨ c = 10)) := rfl
  rw [hd]
  by_cases h0 : c = 0
  · subst h0; simp [f178, hc, kid5, vv, Frame.put, keepF, Opd.ev, Opd.taken, aun, params, AVal.cells, AVal.known, entries, ASt.push, loadAt, mk, ASt.get, getL, results, result, ASt.trunc, underL, AVal.under, Own.under, storeAt, mayPutL, mayPut, splice, ASt.set, setL, fill, zeros, List.map_cons, List.map_nil, List.nil_append, List.append_nil, Option.map_some, Option.bind_some]
  generalize decide (c = 9 ∨ c = 10) = q at hc ⊢
  cases q <;> simp [f178, hc, h0, kid5, vv, Frame.put, keepF, Opd.ev, Opd.taken, aun, params, AVal.cells, AVal.known, entries, ASt.push, loadAt, mk, ASt.get, getL, results, result, ASt.trunc, underL, AVal.under, Own.under, storeAt, mayPutL, mayPut, splice, ASt.set, setL, fill, zeros, List.map_cons, List.map_nil, List.nil_append, List.append_nil, Option.map_some, Option.bind_some]
theorem kid_11 (i : Int) : Call C2 178 [.int .i64 11, .int .i64 i, .agg (kid5 c t p e kv)] ⟨0, []⟩ = some (.bool (KP.test (.stmt) c), ⟨0, []⟩) := by
  rw [run_of (af := f178) rfl rfl, v_run rfl]
  have hc := stmt2_call c
  have hd : KP.test .stmt c = decide (12 ≤ c ∧ c ≤ 19) := rfl
  rw [hd]
  generalize decide (12 ≤ c ∧ c ≤ 19) = q at hc ⊢
  cases q <;> simp [f178, hc, kid5, vv, Frame.put, keepF, Opd.ev, Opd.taken, aun, params, AVal.cells, AVal.known, entries, ASt.push, loadAt, mk, ASt.get, getL, results, result, ASt.trunc, underL, AVal.under, Own.under, storeAt, mayPutL, mayPut, splice, ASt.set, setL, fill, zeros, List.map_cons, List.map_nil, List.nil_append, List.append_nil, Option.map_some, Option.bind_some]
theorem kid_12_0 : Call C2 178 [.int .i64 12, .int .i64 0, .agg (kid5 c t p e kv)] ⟨0, []⟩ = some (.bool (KP.test (.opt .typ) c), ⟨0, []⟩) := by
  rw [run_of (af := f178) rfl rfl, v_run rfl]
  have hc := typ2_call c
  have hd : KP.test (.opt .typ) c = (decide (c = 0) || decide (c = 9 ∨ c = 10)) := rfl
  rw [hd]
  by_cases h0 : c = 0
  · subst h0; simp [f178, hc, kid5, vv, Frame.put, keepF, Opd.ev, Opd.taken, aun, params, AVal.cells, AVal.known, entries, ASt.push, loadAt, mk, ASt.get, getL, results, result, ASt.trunc, underL, AVal.under, Own.under, storeAt, mayPutL, mayPut, splice, ASt.set, setL, fill, zeros, List.map_cons, List.map_nil, List.nil_append, List.append_nil, Option.map_some, Option.bind_some]
  generalize decide (c = 9 ∨ c = 10) = q at hc ⊢
  cases q <;> simp [f178, hc, h0, kid5, vv, Frame.put, keepF, Opd.ev, Opd.taken, aun, params, AVal.cells, AVal.known, entries, ASt.push, loadAt, mk, ASt.get, getL, results, result, ASt.trunc, underL, AVal.under, Own.under, storeAt, mayPutL, mayPut, splice, ASt.set, setL, fill, zeros, List.map_cons, List.map_nil, List.nil_append, List.append_nil, Option.map_some, Option.bind_some]
theorem kid_12_1 : Call C2 178 [.int .i64 12, .int .i64 1, .agg (kid5 c t p e kv)] ⟨0, []⟩ = some (.bool (KP.test (.expr) c), ⟨0, []⟩) := by
  rw [run_of (af := f178) rfl rfl, v_run rfl]
  have hc := isExpr_call c
  have hd : KP.test .expr c = decide (20 ≤ c ∧ c ≤ 29) := rfl
  rw [hd]
  generalize decide (20 ≤ c ∧ c ≤ 29) = q at hc ⊢
  cases q <;> simp [f178, hc, kid5, vv, Frame.put, keepF, Opd.ev, Opd.taken, aun, params, AVal.cells, AVal.known, entries, ASt.push, loadAt, mk, ASt.get, getL, results, result, ASt.trunc, underL, AVal.under, Own.under, storeAt, mayPutL, mayPut, splice, ASt.set, setL, fill, zeros, List.map_cons, List.map_nil, List.nil_append, List.append_nil, Option.map_some, Option.bind_some]
theorem kid_13_0 : Call C2 178 [.int .i64 13, .int .i64 0, .agg (kid5 c t p e kv)] ⟨0, []⟩ = some (.bool (KP.test (.place) c), ⟨0, []⟩) := by
  rw [run_of (af := f178) rfl rfl, v_run rfl]
  have hc := place2_call c
  have hd : KP.test .place c = decide (c = 20 ∨ c = 21 ∨ c = 22) := rfl
  rw [hd]
  generalize decide (c = 20 ∨ c = 21 ∨ c = 22) = q at hc ⊢
  cases q <;> simp [f178, hc, kid5, vv, Frame.put, keepF, Opd.ev, Opd.taken, aun, params, AVal.cells, AVal.known, entries, ASt.push, loadAt, mk, ASt.get, getL, results, result, ASt.trunc, underL, AVal.under, Own.under, storeAt, mayPutL, mayPut, splice, ASt.set, setL, fill, zeros, List.map_cons, List.map_nil, List.nil_append, List.append_nil, Option.map_some, Option.bind_some]
theorem kid_13_1 : Call C2 178 [.int .i64 13, .int .i64 1, .agg (kid5 c t p e kv)] ⟨0, []⟩ = some (.bool (KP.test (.expr) c), ⟨0, []⟩) := by
  rw [run_of (af := f178) rfl rfl, v_run rfl]
  have hc := isExpr_call c
  have hd : KP.test .expr c = decide (20 ≤ c ∧ c ≤ 29) := rfl
  rw [hd]
  generalize decide (20 ≤ c ∧ c ≤ 29) = q at hc ⊢
  cases q <;> simp [f178, hc, kid5, vv, Frame.put, keepF, Opd.ev, Opd.taken, aun, params, AVal.cells, AVal.known, entries, ASt.push, loadAt, mk, ASt.get, getL, results, result, ASt.trunc, underL, AVal.under, Own.under, storeAt, mayPutL, mayPut, splice, ASt.set, setL, fill, zeros, List.map_cons, List.map_nil, List.nil_append, List.append_nil, Option.map_some, Option.bind_some]
theorem kid_14_0 : Call C2 178 [.int .i64 14, .int .i64 0, .agg (kid5 c t p e kv)] ⟨0, []⟩ = some (.bool (KP.test (.expr) c), ⟨0, []⟩) := by
  rw [run_of (af := f178) rfl rfl, v_run rfl]
  have hc := isExpr_call c
  have hd : KP.test .expr c = decide (20 ≤ c ∧ c ≤ 29) := rfl
  rw [hd]
  generalize decide (20 ≤ c ∧ c ≤ 29) = q at hc ⊢
  cases q <;> simp [f178, hc, kid5, vv, Frame.put, keepF, Opd.ev, Opd.taken, aun, params, AVal.cells, AVal.known, entries, ASt.push, loadAt, mk, ASt.get, getL, results, result, ASt.trunc, underL, AVal.under, Own.under, storeAt, mayPutL, mayPut, splice, ASt.set, setL, fill, zeros, List.map_cons, List.map_nil, List.nil_append, List.append_nil, Option.map_some, Option.bind_some]
theorem kid_14_1 : Call C2 178 [.int .i64 14, .int .i64 1, .agg (kid5 c t p e kv)] ⟨0, []⟩ = some (.bool (KP.test (.one [11]) c), ⟨0, []⟩) := by
  rw [run_of (af := f178) rfl rfl, v_run rfl]
  by_cases h11 : c = 11
  · subst h11; simp [f178, KP.test, kid5, vv, Frame.put, keepF, Opd.ev, Opd.taken, aun, params, AVal.cells, AVal.known, entries, ASt.push, loadAt, mk, ASt.get, getL, results, result, ASt.trunc, underL, AVal.under, Own.under, storeAt, mayPutL, mayPut, splice, ASt.set, setL, fill, zeros, List.map_cons, List.map_nil, List.nil_append, List.append_nil, Option.map_some, Option.bind_some]
  simp [f178, KP.test, h11, kid5, vv, Frame.put, keepF, Opd.ev, Opd.taken, aun, params, AVal.cells, AVal.known, entries, ASt.push, loadAt, mk, ASt.get, getL, results, result, ASt.trunc, underL, AVal.under, Own.under, storeAt, mayPutL, mayPut, splice, ASt.set, setL, fill, zeros, List.map_cons, List.map_nil, List.nil_append, List.append_nil, Option.map_some, Option.bind_some]
theorem kid_14_2 : Call C2 178 [.int .i64 14, .int .i64 2, .agg (kid5 c t p e kv)] ⟨0, []⟩ = some (.bool (KP.test (.opt (.one [11, 14])) c), ⟨0, []⟩) := by
  rw [run_of (af := f178) rfl rfl, v_run rfl]
  by_cases h11 : c = 11
  · subst h11; simp [f178, KP.test, kid5, vv, Frame.put, keepF, Opd.ev, Opd.taken, aun, params, AVal.cells, AVal.known, entries, ASt.push, loadAt, mk, ASt.get, getL, results, result, ASt.trunc, underL, AVal.under, Own.under, storeAt, mayPutL, mayPut, splice, ASt.set, setL, fill, zeros, List.map_cons, List.map_nil, List.nil_append, List.append_nil, Option.map_some, Option.bind_some]
  by_cases h14 : c = 14
  · subst h14; simp [f178, KP.test, kid5, vv, Frame.put, keepF, Opd.ev, Opd.taken, aun, params, AVal.cells, AVal.known, entries, ASt.push, loadAt, mk, ASt.get, getL, results, result, ASt.trunc, underL, AVal.under, Own.under, storeAt, mayPutL, mayPut, splice, ASt.set, setL, fill, zeros, List.map_cons, List.map_nil, List.nil_append, List.append_nil, Option.map_some, Option.bind_some]
  by_cases h0 : c = 0
  · subst h0; simp [f178, KP.test, kid5, vv, Frame.put, keepF, Opd.ev, Opd.taken, aun, params, AVal.cells, AVal.known, entries, ASt.push, loadAt, mk, ASt.get, getL, results, result, ASt.trunc, underL, AVal.under, Own.under, storeAt, mayPutL, mayPut, splice, ASt.set, setL, fill, zeros, List.map_cons, List.map_nil, List.nil_append, List.append_nil, Option.map_some, Option.bind_some]
  simp [f178, KP.test, h11, h14, h0, kid5, vv, Frame.put, keepF, Opd.ev, Opd.taken, aun, params, AVal.cells, AVal.known, entries, ASt.push, loadAt, mk, ASt.get, getL, results, result, ASt.trunc, underL, AVal.under, Own.under, storeAt, mayPutL, mayPut, splice, ASt.set, setL, fill, zeros, List.map_cons, List.map_nil, List.nil_append, List.append_nil, Option.map_some, Option.bind_some]
theorem kid_15_0 : Call C2 178 [.int .i64 15, .int .i64 0, .agg (kid5 c t p e kv)] ⟨0, []⟩ = some (.bool (KP.test (.expr) c), ⟨0, []⟩) := by
  rw [run_of (af := f178) rfl rfl, v_run rfl]
  have hc := isExpr_call c
  have hd : KP.test .expr c = decide (20 ≤ c ∧ c ≤ 29) := rfl
  rw [hd]
  generalize decide (20 ≤ c ∧ c ≤ 29) = q at hc ⊢
  cases q <;> simp [f178, hc, kid5, vv, Frame.put, keepF, Opd.ev, Opd.taken, aun, params, AVal.cells, AVal.known, entries, ASt.push, loadAt, mk, ASt.get, getL, results, result, ASt.trunc, underL, AVal.under, Own.under, storeAt, mayPutL, mayPut, splice, ASt.set, setL, fill, zeros, List.map_cons, List.map_nil, List.nil_append, List.append_nil, Option.map_some, Option.bind_some]
theorem kid_15_1 : Call C2 178 [.int .i64 15, .int .i64 1, .agg (kid5 c t p e kv)] ⟨0, []⟩ = some (.bool (KP.test (.one [11]) c), ⟨0, []⟩) := by
  rw [run_of (af := f178) rfl rfl, v_run rfl]
  by_cases h11 : c = 11
  · subst h11; simp [f178, KP.test, kid5, vv, Frame.put, keepF, Opd.ev, Opd.taken, aun, params, AVal.cells, AVal.known, entries, ASt.push, loadAt, mk, ASt.get, getL, results, result, ASt.trunc, underL, AVal.under, Own.under, storeAt, mayPutL, mayPut, splice, ASt.set, setL, fill, zeros, List.map_cons, List.map_nil, List.nil_append, List.append_nil, Option.map_some, Option.bind_some]
  simp [f178, KP.test, h11, kid5, vv, Frame.put, keepF, Opd.ev, Opd.taken, aun, params, AVal.cells, AVal.known, entries, ASt.push, loadAt, mk, ASt.get, getL, results, result, ASt.trunc, underL, AVal.under, Own.under, storeAt, mayPutL, mayPut, splice, ASt.set, setL, fill, zeros, List.map_cons, List.map_nil, List.nil_append, List.append_nil, Option.map_some, Option.bind_some]
theorem kid_16_0 : Call C2 178 [.int .i64 16, .int .i64 0, .agg (kid5 c t p e kv)] ⟨0, []⟩ = some (.bool (KP.test (.expr) c), ⟨0, []⟩) := by
  rw [run_of (af := f178) rfl rfl, v_run rfl]
  have hc := isExpr_call c
  have hd : KP.test .expr c = decide (20 ≤ c ∧ c ≤ 29) := rfl
  rw [hd]
  generalize decide (20 ≤ c ∧ c ≤ 29) = q at hc ⊢
  cases q <;> simp [f178, hc, kid5, vv, Frame.put, keepF, Opd.ev, Opd.taken, aun, params, AVal.cells, AVal.known, entries, ASt.push, loadAt, mk, ASt.get, getL, results, result, ASt.trunc, underL, AVal.under, Own.under, storeAt, mayPutL, mayPut, splice, ASt.set, setL, fill, zeros, List.map_cons, List.map_nil, List.nil_append, List.append_nil, Option.map_some, Option.bind_some]
theorem kid_16_1 : Call C2 178 [.int .i64 16, .int .i64 1, .agg (kid5 c t p e kv)] ⟨0, []⟩ = some (.bool (KP.test (.expr) c), ⟨0, []⟩) := by
  rw [run_of (af := f178) rfl rfl, v_run rfl]
  have hc := isExpr_call c
  have hd : KP.test .expr c = decide (20 ≤ c ∧ c ≤ 29) := rfl
  rw [hd]
  generalize decide (20 ≤ c ∧ c ≤ 29) = q at hc ⊢
  cases q <;> simp [f178, hc, kid5, vv, Frame.put, keepF, Opd.ev, Opd.taken, aun, params, AVal.cells, AVal.known, entries, ASt.push, loadAt, mk, ASt.get, getL, results, result, ASt.trunc, underL, AVal.under, Own.under, storeAt, mayPutL, mayPut, splice, ASt.set, setL, fill, zeros, List.map_cons, List.map_nil, List.nil_append, List.append_nil, Option.map_some, Option.bind_some]
theorem kid_16_2 : Call C2 178 [.int .i64 16, .int .i64 2, .agg (kid5 c t p e kv)] ⟨0, []⟩ = some (.bool (KP.test (.one [11]) c), ⟨0, []⟩) := by
  rw [run_of (af := f178) rfl rfl, v_run rfl]
  by_cases h11 : c = 11
  · subst h11; simp [f178, KP.test, kid5, vv, Frame.put, keepF, Opd.ev, Opd.taken, aun, params, AVal.cells, AVal.known, entries, ASt.push, loadAt, mk, ASt.get, getL, results, result, ASt.trunc, underL, AVal.under, Own.under, storeAt, mayPutL, mayPut, splice, ASt.set, setL, fill, zeros, List.map_cons, List.map_nil, List.nil_append, List.append_nil, Option.map_some, Option.bind_some]
  simp [f178, KP.test, h11, kid5, vv, Frame.put, keepF, Opd.ev, Opd.taken, aun, params, AVal.cells, AVal.known, entries, ASt.push, loadAt, mk, ASt.get, getL, results, result, ASt.trunc, underL, AVal.under, Own.under, storeAt, mayPutL, mayPut, splice, ASt.set, setL, fill, zeros, List.map_cons, List.map_nil, List.nil_append, List.append_nil, Option.map_some, Option.bind_some]
theorem kid_17 (i : Int) : Call C2 178 [.int .i64 17, .int .i64 i, .agg (kid5 c t p e kv)] ⟨0, []⟩ = some (.bool (KP.test (.opt .expr) c), ⟨0, []⟩) := by
  rw [run_of (af := f178) rfl rfl, v_run rfl]
  have hc := isExpr_call c
  have hd : KP.test (.opt .expr) c = (decide (c = 0) || decide (20 ≤ c ∧ c ≤ 29)) := rfl
  rw [hd]
  by_cases h0 : c = 0
  · subst h0; simp [f178, hc, kid5, vv, Frame.put, keepF, Opd.ev, Opd.taken, aun, params, AVal.cells, AVal.known, entries, ASt.push, loadAt, mk, ASt.get, getL, results, result, ASt.trunc, underL, AVal.under, Own.under, storeAt, mayPutL, mayPut, splice, ASt.set, setL, fill, zeros, List.map_cons, List.map_nil, List.nil_append, List.append_nil, Option.map_some, Option.bind_some]
  generalize decide (20 ≤ c ∧ c ≤ 29) = q at hc ⊢
  cases q <;> simp [f178, hc, h0, kid5, vv, Frame.put, keepF, Opd.ev, Opd.taken, aun, params, AVal.cells, AVal.known, entries, ASt.push, loadAt, mk, ASt.get, getL, results, result, ASt.trunc, underL, AVal.under, Own.under, storeAt, mayPutL, mayPut, splice, ASt.set, setL, fill, zeros, List.map_cons, List.map_nil, List.nil_append, List.append_nil, Option.map_some, Option.bind_some]
theorem kid_18 (i : Int) : Call C2 178 [.int .i64 18, .int .i64 i, .agg (kid5 c t p e kv)] ⟨0, []⟩ = some (.bool (KP.test (.expr) c), ⟨0, []⟩) := by
  rw [run_of (af := f178) rfl rfl, v_run rfl]
  have hc := isExpr_call c
  have hd : KP.test .expr c = decide (20 ≤ c ∧ c ≤ 29) := rfl
  rw [hd]
  generalize decide (20 ≤ c ∧ c ≤ 29) = q at hc ⊢
  cases q <;> simp [f178, hc, kid5, vv, Frame.put, keepF, Opd.ev, Opd.taken, aun, params, AVal.cells, AVal.known, entries, ASt.push, loadAt, mk, ASt.get, getL, results, result, ASt.trunc, underL, AVal.under, Own.under, storeAt, mayPutL, mayPut, splice, ASt.set, setL, fill, zeros, List.map_cons, List.map_nil, List.nil_append, List.append_nil, Option.map_some, Option.bind_some]
theorem kid_19 (i : Int) : Call C2 178 [.int .i64 19, .int .i64 i, .agg (kid5 c t p e kv)] ⟨0, []⟩ = some (.bool (KP.test (.expr) c), ⟨0, []⟩) := by
  rw [run_of (af := f178) rfl rfl, v_run rfl]
  have hc := isExpr_call c
  have hd : KP.test .expr c = decide (20 ≤ c ∧ c ≤ 29) := rfl
  rw [hd]
  generalize decide (20 ≤ c ∧ c ≤ 29) = q at hc ⊢
  cases q <;> simp [f178, hc, kid5, vv, Frame.put, keepF, Opd.ev, Opd.taken, aun, params, AVal.cells, AVal.known, entries, ASt.push, loadAt, mk, ASt.get, getL, results, result, ASt.trunc, underL, AVal.under, Own.under, storeAt, mayPutL, mayPut, splice, ASt.set, setL, fill, zeros, List.map_cons, List.map_nil, List.nil_append, List.append_nil, Option.map_some, Option.bind_some]
theorem kid_21_0 : Call C2 178 [.int .i64 21, .int .i64 0, .agg (kid5 c t p e kv)] ⟨0, []⟩ = some (.bool (KP.test (.one [20]) c), ⟨0, []⟩) := by
  rw [run_of (af := f178) rfl rfl, v_run rfl]
  by_cases h20 : c = 20
  · subst h20; simp [f178, KP.test, kid5, vv, Frame.put, keepF, Opd.ev, Opd.taken, aun, params, AVal.cells, AVal.known, entries, ASt.push, loadAt, mk, ASt.get, getL, results, result, ASt.trunc, underL, AVal.under, Own.under, storeAt, mayPutL, mayPut, splice, ASt.set, setL, fill, zeros, List.map_cons, List.map_nil, List.nil_append, List.append_nil, Option.map_some, Option.bind_some]
  simp [f178, KP.test, h20, kid5, vv, Frame.put, keepF, Opd.ev, Opd.taken, aun, params, AVal.cells, AVal.known, entries, ASt.push, loadAt, mk, ASt.get, getL, results, result, ASt.trunc, underL, AVal.under, Own.under, storeAt, mayPutL, mayPut, splice, ASt.set, setL, fill, zeros, List.map_cons, List.map_nil, List.nil_append, List.append_nil, Option.map_some, Option.bind_some]
theorem kid_21_1 : Call C2 178 [.int .i64 21, .int .i64 1, .agg (kid5 c t p e kv)] ⟨0, []⟩ = some (.bool (KP.test (.expr) c), ⟨0, []⟩) := by
  rw [run_of (af := f178) rfl rfl, v_run rfl]
  have hc := isExpr_call c
  have hd : KP.test .expr c = decide (20 ≤ c ∧ c ≤ 29) := rfl
  rw [hd]
  generalize decide (20 ≤ c ∧ c ≤ 29) = q at hc ⊢
  cases q <;> simp [f178, hc, kid5, vv, Frame.put, keepF, Opd.ev, Opd.taken, aun, params, AVal.cells, AVal.known, entries, ASt.push, loadAt, mk, ASt.get, getL, results, result, ASt.trunc, underL, AVal.under, Own.under, storeAt, mayPutL, mayPut, splice, ASt.set, setL, fill, zeros, List.map_cons, List.map_nil, List.nil_append, List.append_nil, Option.map_some, Option.bind_some]
theorem kid_22 (i : Int) : Call C2 178 [.int .i64 22, .int .i64 i, .agg (kid5 c t p e kv)] ⟨0, []⟩ = some (.bool (KP.test (.one [20]) c), ⟨0, []⟩) := by
  rw [run_of (af := f178) rfl rfl, v_run rfl]
  by_cases h20 : c = 20
  · subst h20; simp [f178, KP.test, kid5, vv, Frame.put, keepF, Opd.ev, Opd.taken, aun, params, AVal.cells, AVal.known, entries, ASt.push, loadAt, mk, ASt.get, getL, results, result, ASt.trunc, underL, AVal.under, Own.under, storeAt, mayPutL, mayPut, splice, ASt.set, setL, fill, zeros, List.map_cons, List.map_nil, List.nil_append, List.append_nil, Option.map_some, Option.bind_some]
  simp [f178, KP.test, h20, kid5, vv, Frame.put, keepF, Opd.ev, Opd.taken, aun, params, AVal.cells, AVal.known, entries, ASt.push, loadAt, mk, ASt.get, getL, results, result, ASt.trunc, underL, AVal.under, Own.under, storeAt, mayPutL, mayPut, splice, ASt.set, setL, fill, zeros, List.map_cons, List.map_nil, List.nil_append, List.append_nil, Option.map_some, Option.bind_some]
theorem kid_23 (i : Int) : Call C2 178 [.int .i64 23, .int .i64 i, .agg (kid5 c t p e kv)] ⟨0, []⟩ = some (.bool (KP.test (.one [20]) c), ⟨0, []⟩) := by
  rw [run_of (af := f178) rfl rfl, v_run rfl]
  by_cases h20 : c = 20
  · subst h20; simp [f178, KP.test, kid5, vv, Frame.put, keepF, Opd.ev, Opd.taken, aun, params, AVal.cells, AVal.known, entries, ASt.push, loadAt, mk, ASt.get, getL, results, result, ASt.trunc, underL, AVal.under, Own.under, storeAt, mayPutL, mayPut, splice, ASt.set, setL, fill, zeros, List.map_cons, List.map_nil, List.nil_append, List.append_nil, Option.map_some, Option.bind_some]
  simp [f178, KP.test, h20, kid5, vv, Frame.put, keepF, Opd.ev, Opd.taken, aun, params, AVal.cells, AVal.known, entries, ASt.push, loadAt, mk, ASt.get, getL, results, result, ASt.trunc, underL, AVal.under, Own.under, storeAt, mayPutL, mayPut, splice, ASt.set, setL, fill, zeros, List.map_cons, List.map_nil, List.nil_append, List.append_nil, Option.map_some, Option.bind_some]
theorem kid_26 (i : Int) : Call C2 178 [.int .i64 26, .int .i64 i, .agg (kid5 c t p e kv)] ⟨0, []⟩ = some (.bool (KP.test (.expr) c), ⟨0, []⟩) := by
  rw [run_of (af := f178) rfl rfl, v_run rfl]
  have hc := isExpr_call c
  have hd : KP.test .expr c = decide (20 ≤ c ∧ c ≤ 29) := rfl
  rw [hd]
  generalize decide (20 ≤ c ∧ c ≤ 29) = q at hc ⊢
  cases q <;> simp [f178, hc, kid5, vv, Frame.put, keepF, Opd.ev, Opd.taken, aun, params, AVal.cells, AVal.known, entries, ASt.push, loadAt, mk, ASt.get, getL, results, result, ASt.trunc, underL, AVal.under, Own.under, storeAt, mayPutL, mayPut, splice, ASt.set, setL, fill, zeros, List.map_cons, List.map_nil, List.nil_append, List.append_nil, Option.map_some, Option.bind_some]
theorem kid_27 (i : Int) : Call C2 178 [.int .i64 27, .int .i64 i, .agg (kid5 c t p e kv)] ⟨0, []⟩ = some (.bool (KP.test (.expr) c), ⟨0, []⟩) := by
  rw [run_of (af := f178) rfl rfl, v_run rfl]
  have hc := isExpr_call c
  have hd : KP.test .expr c = decide (20 ≤ c ∧ c ≤ 29) := rfl
  rw [hd]
  generalize decide (20 ≤ c ∧ c ≤ 29) = q at hc ⊢
  cases q <;> simp [f178, hc, kid5, vv, Frame.put, keepF, Opd.ev, Opd.taken, aun, params, AVal.cells, AVal.known, entries, ASt.push, loadAt, mk, ASt.get, getL, results, result, ASt.trunc, underL, AVal.under, Own.under, storeAt, mayPutL, mayPut, splice, ASt.set, setL, fill, zeros, List.map_cons, List.map_nil, List.nil_append, List.append_nil, Option.map_some, Option.bind_some]
theorem kid_28 (i : Int) : Call C2 178 [.int .i64 28, .int .i64 i, .agg (kid5 c t p e kv)] ⟨0, []⟩ = some (.bool (KP.test (.expr) c), ⟨0, []⟩) := by
  rw [run_of (af := f178) rfl rfl, v_run rfl]
  have hc := isExpr_call c
  have hd : KP.test .expr c = decide (20 ≤ c ∧ c ≤ 29) := rfl
  rw [hd]
  generalize decide (20 ≤ c ∧ c ≤ 29) = q at hc ⊢
  cases q <;> simp [f178, hc, kid5, vv, Frame.put, keepF, Opd.ev, Opd.taken, aun, params, AVal.cells, AVal.known, entries, ASt.push, loadAt, mk, ASt.get, getL, results, result, ASt.trunc, underL, AVal.under, Own.under, storeAt, mayPutL, mayPut, splice, ASt.set, setL, fill, zeros, List.map_cons, List.map_nil, List.nil_append, List.append_nil, Option.map_some, Option.bind_some]
theorem kid_29 (i : Int) : Call C2 178 [.int .i64 29, .int .i64 i, .agg (kid5 c t p e kv)] ⟨0, []⟩ = some (.bool (KP.test (.expr) c), ⟨0, []⟩) := by
  rw [run_of (af := f178) rfl rfl, v_run rfl]
  have hc := isExpr_call c
  have hd : KP.test .expr c = decide (20 ≤ c ∧ c ≤ 29) := rfl
  rw [hd]
  generalize decide (20 ≤ c ∧ c ≤ 29) = q at hc ⊢
  cases q <;> simp [f178, hc, kid5, vv, Frame.put, keepF, Opd.ev, Opd.taken, aun, params, AVal.cells, AVal.known, entries, ASt.push, loadAt, mk, ASt.get, getL, results, result, ASt.trunc, underL, AVal.under, Own.under, storeAt, mayPutL, mayPut, splice, ASt.set, setL, fill, zeros, List.map_cons, List.map_nil, List.nil_append, List.append_nil, Option.map_some, Option.bind_some]
set_option maxHeartbeats 4000000 in
theorem kid_4 (i : Int) : Call C2 178 [.int .i64 4, .int .i64 i, .agg (kid5 c t p e kv)] ⟨0, []⟩ = some (.bool (KP.test (.one [9]) c && [sInt, sBool].contains t), ⟨0, []⟩) := by
  rw [run_of (af := f178) rfl rfl, v_run rfl]
  by_cases h1 : c = 9
  · subst h1
    by_cases h2 : t = sInt
    · subst h2; simp [f178, KP.test, sInt, sBool, kid5, vv, Frame.put, keepF, Opd.ev, Opd.taken, aun, params, AVal.cells, AVal.known, entries, ASt.push, loadAt, mk, ASt.get, getL, results, result, ASt.trunc, underL, AVal.under, Own.under, storeAt, mayPutL, mayPut, splice, ASt.set, setL, fill, zeros, List.map_cons, List.map_nil, List.nil_append, List.append_nil, Option.map_some, Option.bind_some]
    · by_cases h3 : t = sBool
      · subst h3; simp [f178, KP.test, sInt, sBool, kid5, vv, Frame.put, keepF, Opd.ev, Opd.taken, aun, params, AVal.cells, AVal.known, entries, ASt.push, loadAt, mk, ASt.get, getL, results, result, ASt.trunc, underL, AVal.under, Own.under, storeAt, mayPutL, mayPut, splice, ASt.set, setL, fill, zeros, List.map_cons, List.map_nil, List.nil_append, List.append_nil, Option.map_some, Option.bind_some]
      · simp only [sInt, sBool] at h2 h3
        simp [f178, KP.test, sInt, sBool, h2, h3, beq_no h2, beq_no h3, kid5, vv, Frame.put, keepF, Opd.ev, Opd.taken, aun, params, AVal.cells, AVal.known, entries, ASt.push, loadAt, mk, ASt.get, getL, results, result, ASt.trunc, underL, AVal.under, Own.under, storeAt, mayPutL, mayPut, splice, ASt.set, setL, fill, zeros, List.map_cons, List.map_nil, List.nil_append, List.append_nil, Option.map_some, Option.bind_some]
  · simp [f178, KP.test, h1, kid5, vv, Frame.put, keepF, Opd.ev, Opd.taken, aun, params, AVal.cells, AVal.known, entries, ASt.push, loadAt, mk, ASt.get, getL, results, result, ASt.trunc, underL, AVal.under, Own.under, storeAt, mayPutL, mayPut, splice, ASt.set, setL, fill, zeros, List.map_cons, List.map_nil, List.nil_append, List.append_nil, Option.map_some, Option.bind_some]

/-- The test of the kid with an index. -/
def kpOf (k : Int) (i : Nat) : Option KP := match lookK k shp with
  | some s => (match s.list with
    | some p => some p
    | none => s.kids[i]?)
  | none => none

theorem kid_call {k : Int} (h1 : 0 ≤ k) (h2 : k ≤ 29) {i : Nat} {q : KP} (hq : kpOf k i = some q) : Call C2 178 [.int .i64 k, .int .i64 i, .agg (kid5 c t p e kv)] ⟨0, []⟩ = some (.bool (q.test c && (!(k == 4) || [sInt, sBool].contains t)), ⟨0, []⟩) := by
  have hk : k ∈ ([0, 1, 2, 3, 4, 5, 6, 7, 8, 9, 10, 11, 12, 13, 14, 15, 16, 17, 18, 19, 20, 21, 22, 23, 24, 25, 26, 27, 28, 29] : List Int) := by
    simp only [List.mem_cons, List.not_mem_nil, or_false]
    omega
  simp only [List.mem_cons, List.not_mem_nil, or_false] at hk
  rcases hk with rfl | rfl | rfl | rfl | rfl | rfl | rfl | rfl | rfl | rfl | rfl | rfl | rfl | rfl | rfl | rfl | rfl | rfl | rfl | rfl | rfl | rfl | rfl | rfl | rfl | rfl | rfl | rfl | rfl | rfl
  · cases hq
  · cases hq
  · cases hq; rw [kid_2]; simp
  · cases hq; rw [kid_3]; simp
  · rcases i with _ | i
    · cases hq; exact kid_4 c t p e kv _
    · cases hq
  · rcases i with _ | _ | _ | i
    · cases hq; have h := kid_5_0 c t p e kv; simpa using h
    · cases hq; have h := kid_5_1 c t p e kv; simpa using h
    · cases hq; have h := kid_5_2 c t p e kv; simpa using h
    · simp [kpOf, lookK, shp] at hq
  · cases hq; rw [kid_6]; simp
  · rcases i with _ | i
    · cases hq; rw [kid_7]; simp
    · simp [kpOf, lookK, shp] at hq
  · rcases i with _ | i
    · cases hq; rw [kid_8]; simp
    · simp [kpOf, lookK, shp] at hq
  · cases hq
  · cases hq
  · cases hq; rw [kid_11]; simp
  · rcases i with _ | _ | i
    · cases hq; have h := kid_12_0 c t p e kv; simpa using h
    · cases hq; have h := kid_12_1 c t p e kv; simpa using h
    · simp [kpOf, lookK, shp] at hq
  · rcases i with _ | _ | i
    · cases hq; have h := kid_13_0 c t p e kv; simpa using h
    · cases hq; have h := kid_13_1 c t p e kv; simpa using h
    · simp [kpOf, lookK, shp] at hq
  · rcases i with _ | _ | _ | i
    · cases hq; have h := kid_14_0 c t p e kv; simpa using h
    · cases hq; have h := kid_14_1 c t p e kv; simpa using h
    · cases hq; have h := kid_14_2 c t p e kv; simpa using h
    · simp [kpOf, lookK, shp] at hq
  · rcases i with _ | _ | i
    · cases hq; have h := kid_15_0 c t p e kv; simpa using h
    · cases hq; have h := kid_15_1 c t p e kv; simpa using h
    · simp [kpOf, lookK, shp] at hq
  · rcases i with _ | _ | _ | i
    · cases hq; have h := kid_16_0 c t p e kv; simpa using h
    · cases hq; have h := kid_16_1 c t p e kv; simpa using h
    · cases hq; have h := kid_16_2 c t p e kv; simpa using h
    · simp [kpOf, lookK, shp] at hq
  · rcases i with _ | i
    · cases hq; rw [kid_17]; simp
    · simp [kpOf, lookK, shp] at hq
  · rcases i with _ | i
    · cases hq; rw [kid_18]; simp
    · simp [kpOf, lookK, shp] at hq
  · cases hq; rw [kid_19]; simp
  · cases hq
  · rcases i with _ | _ | i
    · cases hq; have h := kid_21_0 c t p e kv; simpa using h
    · cases hq; have h := kid_21_1 c t p e kv; simpa using h
    · simp [kpOf, lookK, shp] at hq
  · rcases i with _ | i
    · cases hq; rw [kid_22]; simp
    · simp [kpOf, lookK, shp] at hq
  · rcases i with _ | i
    · cases hq; rw [kid_23]; simp
    · simp [kpOf, lookK, shp] at hq
  · cases hq
  · cases hq
  · cases hq; rw [kid_26]; simp
  · cases hq; rw [kid_27]; simp
  · rcases i with _ | i
    · cases hq; rw [kid_28]; simp
    · simp [kpOf, lookK, shp] at hq
  · rcases i with _ | _ | i
    · cases hq; rw [kid_29]; simp
    · cases hq; rw [kid_29]; simp
    · simp [kpOf, lookK, shp] at hq
end
end Go.Proofs.YtdhgdpokdhjanaaGreat.Abs
