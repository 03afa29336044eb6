/- The reference's tests of texts, of kinds, and the numbers of kids. -/
import Derived.Test.YtdhgdpokdhjanaaGreatV0
import Derived.Test.YtdhgdpokdhjanaaGreatMY5
set_option linter.unusedSimpArgs false
set_option linter.unusedVariables false
namespace Go.Proofs.YtdhgdpokdhjanaaGreat.Abs
open Go

theorem typ2_call (k : Int) : Call C2 174 [.int .i64 k] ⟨0, []⟩ = some (.bool (decide (k = 9 ∨ k = 10)), ⟨0, []⟩) := by
  rw [run_of (af := f174) rfl rfl, v_run rfl]
  by_cases h1 : k = 9
  · subst h1; simp [f174, kid5, vv, Frame.put, keepF, Opd.ev, Opd.taken, aun, params, AVal.cells, AVal.known, entries, ASt.push, loadAt, mk, ASt.get, getL, results, result, ASt.trunc, underL, AVal.under, Own.under, storeAt, mayPutL, mayPut, splice, ASt.set, setL, fill, zeros, List.map_cons, List.map_nil, List.nil_append, List.append_nil, Option.map_some, Option.bind_some]
  · by_cases h2 : k = 10
    · subst h2; simp [f174, kid5, vv, Frame.put, keepF, Opd.ev, Opd.taken, aun, params, AVal.cells, AVal.known, entries, ASt.push, loadAt, mk, ASt.get, getL, results, result, ASt.trunc, underL, AVal.under, Own.under, storeAt, mayPutL, mayPut, splice, ASt.set, setL, fill, zeros, List.map_cons, List.map_nil, List.nil_append, List.append_nil, Option.map_some, Option.bind_some]
    · simp [f174, h1, h2, kid5, vv, Frame.put, keepF, Opd.ev, Opd.taken, aun, params, AVal.cells, AVal.known, entries, ASt.push, loadAt, mk, ASt.get, getL, results, result, ASt.trunc, underL, AVal.under, Own.under, storeAt, mayPutL, mayPut, splice, ASt.set, setL, fill, zeros, List.map_cons, List.map_nil, List.nil_append, List.append_nil, Option.map_some, Option.bind_some]
theorem place2_call (k : Int) : Call C2 168 [.int .i64 k] ⟨0, []⟩ = some (.bool (decide (k = 20 ∨ k = 21 ∨ k = 22)), ⟨0, []⟩) := by
  rw [run_of (af := f168) rfl rfl, v_run rfl]
  by_cases h1 : k = 20
  · subst h1; simp [f168, kid5, vv, Frame.put, keepF, Opd.ev, Opd.taken, aun, params, AVal.cells, AVal.known, entries, ASt.push, loadAt, mk, ASt.get, getL, results, result, ASt.trunc, underL, AVal.under, Own.under, storeAt, mayPutL, mayPut, splice, ASt.set, setL, fill, zeros, List.map_cons, List.map_nil, List.nil_append, List.append_nil, Option.map_some, Option.bind_some]
  · by_cases h2 : k = 21
    · subst h2; simp [f168, kid5, vv, Frame.put, keepF, Opd.ev, Opd.taken, aun, params, AVal.cells, AVal.known, entries, ASt.push, loadAt, mk, ASt.get, getL, results, result, ASt.trunc, underL, AVal.under, Own.under, storeAt, mayPutL, mayPut, splice, ASt.set, setL, fill, zeros, List.map_cons, List.map_nil, List.nil_append, List.append_nil, Option.map_some, Option.bind_some]
    · by_cases h3 : k = 22
      · subst h3; simp [f168, kid5, vv, Frame.put, keepF, Opd.ev, Opd.taken, aun, params, AVal.cells, AVal.known, entries, ASt.push, loadAt, mk, ASt.get, getL, results, result, ASt.trunc, underL, AVal.under, Own.under, storeAt, mayPutL, mayPut, splice, ASt.set, setL, fill, zeros, List.map_cons, List.map_nil, List.nil_append, List.append_nil, Option.map_some, Option.bind_some]
      · simp [f168, h1, h2, h3, kid5, vv, Frame.put, keepF, Opd.ev, Opd.taken, aun, params, AVal.cells, AVal.known, entries, ASt.push, loadAt, mk, ASt.get, getL, results, result, ASt.trunc, underL, AVal.under, Own.under, storeAt, mayPutL, mayPut, splice, ASt.set, setL, fill, zeros, List.map_cons, List.map_nil, List.nil_append, List.append_nil, Option.map_some, Option.bind_some]
theorem stmt2_call (k : Int) : Call C2 164 [.int .i64 k] ⟨0, []⟩ = some (.bool (decide (12 ≤ k ∧ k ≤ 19)), ⟨0, []⟩) := by
  rw [run_of (af := f164) rfl rfl, v_run rfl]
  by_cases h1 : 12 ≤ k
  · by_cases h2 : k ≤ 19
    · simp [f164, h1, h2, kid5, vv, Frame.put, keepF, Opd.ev, Opd.taken, aun, params, AVal.cells, AVal.known, entries, ASt.push, loadAt, mk, ASt.get, getL, results, result, ASt.trunc, underL, AVal.under, Own.under, storeAt, mayPutL, mayPut, splice, ASt.set, setL, fill, zeros, List.map_cons, List.map_nil, List.nil_append, List.append_nil, Option.map_some, Option.bind_some]
    · simp [f164, h1, h2, kid5, vv, Frame.put, keepF, Opd.ev, Opd.taken, aun, params, AVal.cells, AVal.known, entries, ASt.push, loadAt, mk, ASt.get, getL, results, result, ASt.trunc, underL, AVal.under, Own.under, storeAt, mayPutL, mayPut, splice, ASt.set, setL, fill, zeros, List.map_cons, List.map_nil, List.nil_append, List.append_nil, Option.map_some, Option.bind_some]
  · simp [f164, h1, kid5, vv, Frame.put, keepF, Opd.ev, Opd.taken, aun, params, AVal.cells, AVal.known, entries, ASt.push, loadAt, mk, ASt.get, getL, results, result, ASt.trunc, underL, AVal.under, Own.under, storeAt, mayPutL, mayPut, splice, ASt.set, setL, fill, zeros, List.map_cons, List.map_nil, List.nil_append, List.append_nil, Option.map_some, Option.bind_some]

/-! ### The texts -/

/-- The test of a kind's texts. -/
def tpOf (k : Int) : TP := match lookK k shp with
  | some s => s.tx
  | none => .empty

theorem kinds_of {k : Int} (h1 : 0 ≤ k) (h2 : k ≤ 29) (h3 : k ≠ 1) : (k = 3 ∨ k = 4 ∨ k = 5 ∨ k = 7 ∨ k = 8 ∨ k = 12 ∨ k = 16 ∨ k = 19 ∨ k = 20 ∨ k = 22 ∨ k = 27) ∨ k = 9 ∨ (k = 10 ∨ k = 24) ∨ k = 25 ∨ k = 28 ∨ k = 29 ∨ (k = 0 ∨ k = 2 ∨ k = 6 ∨ k = 11 ∨ k = 13 ∨ k = 14 ∨ k = 15 ∨ k = 17 ∨ k = 18 ∨ k = 21 ∨ k = 23 ∨ k = 26) := by omega

section
variable (t : List UInt8) (p e : Int) (kv : AVal)

set_option maxHeartbeats 4000000 in
theorem text_name {k : Int} (ht : t.length ≤ limit) (hk : k = 3 ∨ k = 4 ∨ k = 5 ∨ k = 7 ∨ k = 8 ∨ k = 12 ∨ k = 16 ∨ k = 19 ∨ k = 20 ∨ k = 22 ∨ k = 27) : Call C2 181 [.agg (kid5 k t p e kv)] ⟨0, []⟩ = some (.bool (okName t), ⟨0, []⟩) := by
  rw [run_of (af := f181) rfl rfl, v_run rfl]
  have h := name2_call t ht
  rcases hk with rfl | rfl | rfl | rfl | rfl | rfl | rfl | rfl | rfl | rfl | rfl <;> simp [f181, h, kid5, vv, Frame.put, keepF, Opd.ev, Opd.taken, aun, params, AVal.cells, AVal.known, entries, ASt.push, loadAt, mk, ASt.get, getL, results, result, ASt.trunc, underL, AVal.under, Own.under, storeAt, mayPutL, mayPut, splice, ASt.set, setL, fill, zeros, List.map_cons, List.map_nil, List.nil_append, List.append_nil, Option.map_some, Option.bind_some]

theorem text_scalar (ht : t.length ≤ limit) : Call C2 181 [.agg (kid5 9 t p e kv)] ⟨0, []⟩ = some (.bool ([sInt, sBool].contains t || okName t), ⟨0, []⟩) := by
  rw [run_of (af := f181) rfl rfl, v_run rfl]
  have h := name2_call t ht
  by_cases h1 : t = sInt
  · subst h1
    simp [f181, sInt, sBool, kid5, vv, Frame.put, keepF, Opd.ev, Opd.taken, aun, params, AVal.cells, AVal.known, entries, ASt.push, loadAt, mk, ASt.get, getL, results, result, ASt.trunc, underL, AVal.under, Own.under, storeAt, mayPutL, mayPut, splice, ASt.set, setL, fill, zeros, List.map_cons, List.map_nil, List.nil_append, List.append_nil, Option.map_some, Option.bind_some]
  · by_cases h2 : t = sBool
    · subst h2
      simp [f181, sInt, sBool, kid5, vv, Frame.put, keepF, Opd.ev, Opd.taken, aun, params, AVal.cells, AVal.known, entries, ASt.push, loadAt, mk, ASt.get, getL, results, result, ASt.trunc, underL, AVal.under, Own.under, storeAt, mayPutL, mayPut, splice, ASt.set, setL, fill, zeros, List.map_cons, List.map_nil, List.nil_append, List.append_nil, Option.map_some, Option.bind_some]
    · have h3 : [sInt, sBool].contains t = false := by simp [h1, h2]
      rw [h3]
      simp only [sInt, sBool] at h1 h2
      simp [f181, h1, h2, beq_no h1, beq_no h2, h, kid5, vv, Frame.put, keepF, Opd.ev, Opd.taken, aun, params, AVal.cells, AVal.known, entries, ASt.push, loadAt, mk, ASt.get, getL, results, result, ASt.trunc, underL, AVal.under, Own.under, storeAt, mayPutL, mayPut, splice, ASt.set, setL, fill, zeros, List.map_cons, List.map_nil, List.nil_append, List.append_nil, Option.map_some, Option.bind_some]

theorem text_num {k : Int} (ht : t.length ≤ limit) (hk : k = 10 ∨ k = 24) : Call C2 181 [.agg (kid5 k t p e kv)] ⟨0, []⟩ = some (.bool (okNum t), ⟨0, []⟩) := by
  rw [run_of (af := f181) rfl rfl, v_run rfl]
  have h := tnum2_call t ht
  rcases hk with rfl | rfl <;> simp [f181, h, kid5, vv, Frame.put, keepF, Opd.ev, Opd.taken, aun, params, AVal.cells, AVal.known, entries, ASt.push, loadAt, mk, ASt.get, getL, results, result, ASt.trunc, underL, AVal.under, Own.under, storeAt, mayPutL, mayPut, splice, ASt.set, setL, fill, zeros, List.map_cons, List.map_nil, List.nil_append, List.append_nil, Option.map_some, Option.bind_some]

theorem text_bool : Call C2 181 [.agg (kid5 25 t p e kv)] ⟨0, []⟩ = some (.bool (([[116, 114, 117, 101], [102, 97, 108, 115, 101]] : List (List UInt8)).contains t), ⟨0, []⟩) := by
  rw [run_of (af := f181) rfl rfl, v_run rfl]
  by_cases h1 : t = [116, 114, 117, 101]
  · subst h1; simp [f181, kid5, vv, Frame.put, keepF, Opd.ev, Opd.taken, aun, params, AVal.cells, AVal.known, entries, ASt.push, loadAt, mk, ASt.get, getL, results, result, ASt.trunc, underL, AVal.under, Own.under, storeAt, mayPutL, mayPut, splice, ASt.set, setL, fill, zeros, List.map_cons, List.map_nil, List.nil_append, List.append_nil, Option.map_some, Option.bind_some]
  · by_cases h2 : t = [102, 97, 108, 115, 101]
    · subst h2; simp [f181, kid5, vv, Frame.put, keepF, Opd.ev, Opd.taken, aun, params, AVal.cells, AVal.known, entries, ASt.push, loadAt, mk, ASt.get, getL, results, result, ASt.trunc, underL, AVal.under, Own.under, storeAt, mayPutL, mayPut, splice, ASt.set, setL, fill, zeros, List.map_cons, List.map_nil, List.nil_append, List.append_nil, Option.map_some, Option.bind_some]
    · have h3 : ([[116, 114, 117, 101], [102, 97, 108, 115, 101]] : List (List UInt8)).contains t = false := by simp [h1, h2]
      rw [h3]
      simp [f181, h1, h2, beq_no h1, beq_no h2, kid5, vv, Frame.put, keepF, Opd.ev, Opd.taken, aun, params, AVal.cells, AVal.known, entries, ASt.push, loadAt, mk, ASt.get, getL, results, result, ASt.trunc, underL, AVal.under, Own.under, storeAt, mayPutL, mayPut, splice, ASt.set, setL, fill, zeros, List.map_cons, List.map_nil, List.nil_append, List.append_nil, Option.map_some, Option.bind_some]
theorem text_unary : Call C2 181 [.agg (kid5 28 t p e kv)] ⟨0, []⟩ = some (.bool (([[45], [110, 111, 116]] : List (List UInt8)).contains t), ⟨0, []⟩) := by
  rw [run_of (af := f181) rfl rfl, v_run rfl]
  by_cases h1 : t = [45]
  · subst h1; simp [f181, kid5, vv, Frame.put, keepF, Opd.ev, Opd.taken, aun, params, AVal.cells, AVal.known, entries, ASt.push, loadAt, mk, ASt.get, getL, results, result, ASt.trunc, underL, AVal.under, Own.under, storeAt, mayPutL, mayPut, splice, ASt.set, setL, fill, zeros, List.map_cons, List.map_nil, List.nil_append, List.append_nil, Option.map_some, Option.bind_some]
  · by_cases h2 : t = [110, 111, 116]
    · subst h2; simp [f181, kid5, vv, Frame.put, keepF, Opd.ev, Opd.taken, aun, params, AVal.cells, AVal.known, entries, ASt.push, loadAt, mk, ASt.get, getL, results, result, ASt.trunc, underL, AVal.under, Own.under, storeAt, mayPutL, mayPut, splice, ASt.set, setL, fill, zeros, List.map_cons, List.map_nil, List.nil_append, List.append_nil, Option.map_some, Option.bind_some]
    · have h3 : ([[45], [110, 111, 116]] : List (List UInt8)).contains t = false := by simp [h1, h2]
      rw [h3]
      simp [f181, h1, h2, beq_no h1, beq_no h2, kid5, vv, Frame.put, keepF, Opd.ev, Opd.taken, aun, params, AVal.cells, AVal.known, entries, ASt.push, loadAt, mk, ASt.get, getL, results, result, ASt.trunc, underL, AVal.under, Own.under, storeAt, mayPutL, mayPut, splice, ASt.set, setL, fill, zeros, List.map_cons, List.map_nil, List.nil_append, List.append_nil, Option.map_some, Option.bind_some]
theorem text_binary : Call C2 181 [.agg (kid5 29 t p e kv)] ⟨0, []⟩ = some (.bool (opsL.contains t), ⟨0, []⟩) := by
  rw [run_of (af := f181) rfl rfl, v_run rfl]
  have h := has_lit opsL (by decide) t
  generalize opsL.contains t = q at h
  simp only [opsL, List.map_cons, List.map_nil, List.length_cons, List.length_nil, Nat.reduceAdd] at h
  simp [f181, h, kid5, vv, Frame.put, keepF, Opd.ev, Opd.taken, aun, params, AVal.cells, AVal.known, entries, ASt.push, loadAt, mk, ASt.get, getL, results, result, ASt.trunc, underL, AVal.under, Own.under, storeAt, mayPutL, mayPut, splice, ASt.set, setL, fill, zeros, List.map_cons, List.map_nil, List.nil_append, List.append_nil, Option.map_some, Option.bind_some]
set_option maxHeartbeats 4000000 in
theorem text_none {k : Int} (hk : k = 0 ∨ k = 2 ∨ k = 6 ∨ k = 11 ∨ k = 13 ∨ k = 14 ∨ k = 15 ∨ k = 17 ∨ k = 18 ∨ k = 21 ∨ k = 23 ∨ k = 26) : Call C2 181 [.agg (kid5 k t p e kv)] ⟨0, []⟩ = some (.bool (t == []), ⟨0, []⟩) := by
  rw [run_of (af := f181) rfl rfl, v_run rfl]
  have h : (t == []) = t.isEmpty := by cases t <;> rfl
  rw [h]
  rcases hk with rfl | rfl | rfl | rfl | rfl | rfl | rfl | rfl | rfl | rfl | rfl | rfl <;> simp [f181, kid5, vv, Frame.put, keepF, Opd.ev, Opd.taken, aun, params, AVal.cells, AVal.known, entries, ASt.push, loadAt, mk, ASt.get, getL, results, result, ASt.trunc, underL, AVal.under, Own.under, storeAt, mayPutL, mayPut, splice, ASt.set, setL, fill, zeros, List.map_cons, List.map_nil, List.nil_append, List.append_nil, Option.map_some, Option.bind_some]

theorem text_call {k : Int} (ht : t.length ≤ limit) (h1 : 0 ≤ k) (h2 : k ≤ 29) (h3 : k ≠ 1) : Call C2 181 [.agg (kid5 k t p e kv)] ⟨0, []⟩ = some (.bool ((tpOf k).test t), ⟨0, []⟩) := by
  rcases kinds_of h1 h2 h3 with h | h | h | h | h | h | h
  · rw [text_name t p e kv ht h]
    rcases h with rfl | rfl | rfl | rfl | rfl | rfl | rfl | rfl | rfl | rfl | rfl <;> rfl
  · subst h; rw [text_scalar t p e kv ht]; rfl
  · rw [text_num t p e kv ht h]
    rcases h with rfl | rfl <;> rfl
  · subst h; rw [text_bool]; rfl
  · subst h; rw [text_unary]; rfl
  · subst h; rw [text_binary]; rfl
  · rw [text_none t p e kv h]
    rcases h with rfl | rfl | rfl | rfl | rfl | rfl | rfl | rfl | rfl | rfl | rfl | rfl <;> rfl
end

/-! ### The numbers of kids -/

/-- The least and the greatest number of kids, as the reference has them. -/
def mostOf (k : Int) : Int × Int := match lookK k shp with
  | some s => match s.list with
    | some _ => (s.most, 4096)
    | none => (s.kids.length, s.kids.length)
  | none => (0, 0)

theorem most_call {k : Int} (h1 : 0 ≤ k) (h2 : k ≤ 29) (h3 : k ≠ 1) : Call C2 179 [.int .i64 k] ⟨0, []⟩ = some (.tup [.int .i64 (mostOf k).1, .int .i64 (mostOf k).2], ⟨0, []⟩) := by
  have hb : ∀ j : Int, j ∈ ([0, 2, 3, 4, 5, 6, 7, 8, 9, 10, 11, 12, 13, 14, 15, 16, 17, 18, 19, 20, 21, 22, 23, 24, 25, 26, 27, 28, 29] : List Int) → Call C2 179 [.int .i64 j] ⟨0, []⟩ = some (.tup [.int .i64 (mostOf j).1, .int .i64 (mostOf j).2], ⟨0, []⟩) := by
    intro j hj
    simp only [List.mem_cons, List.not_mem_nil, or_false] at hj
    rcases hj with rfl | rfl | rfl | rfl | rfl | rfl | rfl | rfl | rfl | rfl | rfl | rfl | rfl | rfl | rfl | rfl | rfl | rfl | rfl | rfl | rfl | rfl | rfl | rfl | rfl | rfl | rfl | rfl | rfl <;>
      exact Call_of C2 (k := 3) (by kernel_rfl)
  refine hb k ?_
  simp only [List.mem_cons, List.not_mem_nil, or_false]
  omega

end Go.Proofs.YtdhgdpokdhjanaaGreat.Abs
