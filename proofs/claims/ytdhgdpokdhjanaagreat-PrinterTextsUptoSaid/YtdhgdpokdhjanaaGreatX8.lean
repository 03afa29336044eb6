/- What the levels of the operators are, in the two printers. -/
import Derived.Test.YtdhgdpokdhjanaaGreatMIrT
set_option linter.unusedSimpArgs false
set_option linter.unusedVariables false
namespace Go.Proofs.YtdhgdpokdhjanaaGreat.Abs
open Go

theorem run_of {f : Nat} {af : AFunc} (hx : C2.ext f = none) (hf : C2.funcs f = some af) (args : List AVal) (s : ASt) : Call C2 f args s = runBody (Call C2) (Loop C2) af args s := by
  rw [Call_eq]
  simp only [stepCall, hx, hf]

def levelsV : AVal := .imap [.str [111, 114], .str [97, 110, 100], .str [61, 61], .str [33, 61], .str [60], .str [60, 61], .str [62], .str [62, 61], .str [43], .str [45], .str [42], .str [47], .str [37]]
  [.int .i64 1, .int .i64 2, .int .i64 4, .int .i64 4, .int .i64 4, .int .i64 4, .int .i64 4, .int .i64 4, .int .i64 5, .int .i64 5, .int .i64 6, .int .i64 6, .int .i64 6]
theorem levels_call : Call C2 344 [] ⟨0, []⟩ = some (levelsV, ⟨0, []⟩) := (know_holds (x := ⟨344, [], levelsV⟩) all_nil (k := 10) (by kernel_rfl) : Fact.holds C2 ⟨344, [], levelsV⟩)

def ops : List (List UInt8 × Int) := [([111, 114], 1), ([97, 110, 100], 2), ([61, 61], 4), ([33, 61], 4), ([60], 4), ([60, 61], 4), ([62], 4), ([62, 61], 4), ([43], 5), ([45], 5), ([42], 6), ([47], 6), ([37], 6)]
def lookS (t : List UInt8) : List (List UInt8 × Int) → Option Int
  | [] => none
  | (x, v) :: r => if t = x then some v else lookS t r
/-- The level of a binary operator. -/
def opl (t : List UInt8) : Option Int := lookS t ops

/-- The level of an expression. -/
def lev (k : Int) (t : List UInt8) : Int :=
  if k < 20 ∨ 29 < k then 0 else if k = 29 then (opl t).getD 8 else if k = 28 then (if t = [110, 111, 116] then 3 else if t = [45] then 7 else 8) else 8

theorem find_lookS (t : List UInt8) : ∀ es : List (List UInt8 × Int), Abs.find .str (.str t) (es.map fun p => .str p.1) (es.map fun p => .int .i64 p.2) = some ((lookS t es).map (AVal.int .i64))
  | [] => rfl
  | (x, v) :: es => by
    have ih := find_lookS t es
    simp only [List.map_cons, Abs.find, keq, lookS]
    by_cases h : t = x
    · simp [h]
    · have : (t == x) = false := by simpa using h
      rw [this, if_neg h]
      exact ih
theorem find_levels (t : List UInt8) : ∃ ks vs, levelsV = .imap ks vs ∧ Abs.find .str (.str t) ks vs = some ((opl t).map (AVal.int .i64)) :=
  ⟨_, _, rfl, find_lookS t ops⟩

theorem st_undef : AVal.undef.strip = .undef := rfl
theorem st_bool (b : Bool) : (AVal.bool b).strip = .bool b := rfl
theorem st_int (k : IntKind) (i : Int) : (AVal.int k i).strip = .int k i := rfl
theorem st_str (l : List UInt8) : (AVal.str l).strip = .str l := rfl
theorem st_nils : AVal.nils.strip = .nils := rfl
theorem st_sln (c : List AVal) (n : Nat) : (AVal.sl c n .none).strip = .sl c n .none := rfl
theorem st_sle (c : List AVal) (n : Nat) : (AVal.sl c n .exact).strip = .sl c n .exact := rfl
theorem st_slm (c : List AVal) (n z : Nat) : (AVal.sl c n (.mine z)).strip = .sl c n .none := rfl
theorem st_ref (r o : Nat) : (AVal.ref r o).strip = .ref r o := rfl
theorem st_ipt (c : List AVal) (o : Nat) : (AVal.ipt c o).strip = .ipt c o := rfl
theorem st_map (r : Nat) : (AVal.map r).strip = .map r := rfl
theorem st_imap (a b : List AVal) : (AVal.imap a b).strip = .imap a b := rfl
theorem st_agg (a : List AVal) : (AVal.agg a).strip = .agg a := rfl
theorem st_tup (a : List AVal) : (AVal.tup a).strip = .tup a := rfl
theorem rd_bool (r c : Nat) (b : Bool) : (AVal.bool b).read r c = .bool b := rfl
theorem rd_int (r c : Nat) (k : IntKind) (i : Int) : (AVal.int k i).read r c = .int k i := rfl
theorem rd_sln (r i : Nat) (c : List AVal) (n : Nat) : (AVal.sl c n .none).read r i = .sl c n .none := rfl
theorem rd_sle (r i : Nat) (c : List AVal) (n : Nat) : (AVal.sl c n .exact).read r i = .sl c n .exact := rfl
theorem rd_nils (r i : Nat) : AVal.nils.read r i = .nils := rfl
theorem rd_str (r c : Nat) (l : List UInt8) : (AVal.str l).read r c = .str l := rfl
theorem fz_int (n : Nat) (s : ASt) (k : IntKind) (i : Int) : fz n s depth (.int k i) = some (.int k i) := fz_under rfl
theorem fz_bool (n : Nat) (s : ASt) (b : Bool) : fz n s depth (.bool b) = some (.bool b) := fz_under rfl
/-- What is handed on, read, frozen: in one. -/
theorem ss : type_of% (And.intro @st_undef (And.intro @st_bool (And.intro @st_int (And.intro @st_str (And.intro @st_nils (And.intro @st_sln (And.intro @st_sle (And.intro @st_slm (And.intro @st_ref (And.intro @st_ipt (And.intro @st_map (And.intro @st_imap (And.intro @st_agg (And.intro @st_tup (And.intro @rd_bool (And.intro @rd_int (And.intro @rd_str (And.intro @rd_sln (And.intro @rd_sle (And.intro @rd_nils (And.intro @fz_int (@fz_bool)))))))))))))))))))))) := And.intro @st_undef (And.intro @st_bool (And.intro @st_int (And.intro @st_str (And.intro @st_nils (And.intro @st_sln (And.intro @st_sle (And.intro @st_slm (And.intro @st_ref (And.intro @st_ipt (And.intro @st_map (And.intro @st_imap (And.intro @st_agg (And.intro @st_tup (And.intro @rd_bool (And.intro @rd_int (And.intro @rd_str (And.intro @rd_sln (And.intro @rd_sle (And.intro @rd_nils (And.intro @fz_int (@fz_bool)))))))))))))))))))))

set_option maxHeartbeats 4000000 in
theorem level_call (k : Int) (t : List UInt8) (p e : Int) (kv : AVal) : Call C2 340 [.agg (kid5 k t p e kv)] ⟨0, []⟩ = some (.int .i64 (lev k t), ⟨0, []⟩) := by
  obtain ⟨ks, vs, hl, hf⟩ := find_levels t
  rw [run_of (af := f340) rfl rfl]
  unfold lev
  by_cases h1 : k < 20
  · simp [f340, levels_call, hl, entries, hf, h1, ss, runBody, exec, exOps, exDraw, exTrace, wanted, aop, Opd.ev, Opd.taken, Frame.get, abin, aun, cmpInt, eqOp, Frame.putO, Frame.put, Frame.keep, params, kid5, AVal.known, AVal.cells, ASt.push, loadAt, cut, mk, ASt.get, getL, results, result, ASt.trunc, underL, AVal.under]
  by_cases h2 : 29 < k
  · simp [f340, levels_call, hl, entries, hf, h1, h2, ss, runBody, exec, exOps, exDraw, exTrace, wanted, aop, Opd.ev, Opd.taken, Frame.get, abin, aun, cmpInt, eqOp, Frame.putO, Frame.put, Frame.keep, params, kid5, AVal.known, AVal.cells, ASt.push, loadAt, cut, mk, ASt.get, getL, results, result, ASt.trunc, underL, AVal.under]
  by_cases h3 : k = 29
  · subst h3
    cases ho : opl t
    · simp [f340, levels_call, hl, entries, hf, ho, ss, runBody, exec, exOps, exDraw, exTrace, wanted, aop, Opd.ev, Opd.taken, Frame.get, abin, aun, cmpInt, eqOp, Frame.putO, Frame.put, Frame.keep, params, kid5, AVal.known, AVal.cells, ASt.push, loadAt, cut, mk, ASt.get, getL, results, result, ASt.trunc, underL, AVal.under]
    · simp [f340, levels_call, hl, entries, hf, ho, ss, runBody, exec, exOps, exDraw, exTrace, wanted, aop, Opd.ev, Opd.taken, Frame.get, abin, aun, cmpInt, eqOp, Frame.putO, Frame.put, Frame.keep, params, kid5, AVal.known, AVal.cells, ASt.push, loadAt, cut, mk, ASt.get, getL, results, result, ASt.trunc, underL, AVal.under]
  by_cases h4 : k = 28
  · subst h4
    by_cases h5 : t = [110, 111, 116]
    · subst h5
      simp [f340, levels_call, hl, entries, hf, ss, runBody, exec, exOps, exDraw, exTrace, wanted, aop, Opd.ev, Opd.taken, Frame.get, abin, aun, cmpInt, eqOp, Frame.putO, Frame.put, Frame.keep, params, kid5, AVal.known, AVal.cells, ASt.push, loadAt, cut, mk, ASt.get, getL, results, result, ASt.trunc, underL, AVal.under]
    by_cases h6 : t = [45]
    · subst h6
      simp [f340, levels_call, hl, entries, hf, ss, runBody, exec, exOps, exDraw, exTrace, wanted, aop, Opd.ev, Opd.taken, Frame.get, abin, aun, cmpInt, eqOp, Frame.putO, Frame.put, Frame.keep, params, kid5, AVal.known, AVal.cells, ASt.push, loadAt, cut, mk, ASt.get, getL, results, result, ASt.trunc, underL, AVal.under]
    · simp [f340, levels_call, hl, entries, hf, h5, h6, ss, runBody, exec, exOps, exDraw, exTrace, wanted, aop, Opd.ev, Opd.taken, Frame.get, abin, aun, cmpInt, eqOp, Frame.putO, Frame.put, Frame.keep, params, kid5, AVal.known, AVal.cells, ASt.push, loadAt, cut, mk, ASt.get, getL, results, result, ASt.trunc, underL, AVal.under]
  · simp [f340, levels_call, hl, entries, hf, h1, h2, h3, h4, ss, runBody, exec, exOps, exDraw, exTrace, wanted, aop, Opd.ev, Opd.taken, Frame.get, abin, aun, cmpInt, eqOp, Frame.putO, Frame.put, Frame.keep, params, kid5, AVal.known, AVal.cells, ASt.push, loadAt, cut, mk, ASt.get, getL, results, result, ASt.trunc, underL, AVal.under]

set_option maxHeartbeats 4000000 in
theorem needed_call (k : Int) (t : List UInt8) (p e : Int) (kv : AVal) (hst : kv.strip = kv) (hu : kv.under 0 = true) (i : Int) : Call C2 345 [.agg (kid5 k t p e kv), .int .i64 i] ⟨0, []⟩ =
    some (.int .i64 (if lev k t = 8 ∨ lev k t = 0 then 1 else if k = 28 then lev k t else if lev k t = 4 ∨ i ≠ 0 then IntKind.wrap .i64 (lev k t + 1) else lev k t), ⟨0, []⟩) := by
  rw [run_of (af := f345) rfl rfl]
  have hc := level_call k t p e kv
  simp only [kid5] at hc
  generalize lev k t = l at hc
  by_cases h1 : l = 8
  · subst h1; simp [f345, hc, hst, hu, ss, runBody, exec, exOps, exDraw, exTrace, wanted, aop, Opd.ev, Opd.taken, Frame.get, abin, aun, cmpInt, eqOp, Frame.putO, Frame.put, Frame.keep, params, kid5, AVal.known, AVal.cells, ASt.push, loadAt, cut, mk, ASt.get, getL, results, result, ASt.trunc, underL, AVal.under]
  by_cases h2 : l = 0
  · subst h2; simp [f345, hc, hst, hu, ss, runBody, exec, exOps, exDraw, exTrace, wanted, aop, Opd.ev, Opd.taken, Frame.get, abin, aun, cmpInt, eqOp, Frame.putO, Frame.put, Frame.keep, params, kid5, AVal.known, AVal.cells, ASt.push, loadAt, cut, mk, ASt.get, getL, results, result, ASt.trunc, underL, AVal.under]
  by_cases h3 : k = 28
  · subst h3; simp [f345, hc, hst, hu, h1, h2, ss, runBody, exec, exOps, exDraw, exTrace, wanted, aop, Opd.ev, Opd.taken, Frame.get, abin, aun, cmpInt, eqOp, Frame.putO, Frame.put, Frame.keep, params, kid5, AVal.known, AVal.cells, ASt.push, loadAt, cut, mk, ASt.get, getL, results, result, ASt.trunc, underL, AVal.under]
  by_cases h4 : l = 4
  · subst h4; simp [f345, hc, hst, hu, h3, ss, runBody, exec, exOps, exDraw, exTrace, wanted, aop, Opd.ev, Opd.taken, Frame.get, abin, aun, cmpInt, eqOp, Frame.putO, Frame.put, Frame.keep, params, kid5, AVal.known, AVal.cells, ASt.push, loadAt, cut, mk, ASt.get, getL, results, result, ASt.trunc, underL, AVal.under]
  by_cases h5 : i = 0
  · subst h5; simp [f345, hc, hst, hu, h1, h2, h3, h4, ss, runBody, exec, exOps, exDraw, exTrace, wanted, aop, Opd.ev, Opd.taken, Frame.get, abin, aun, cmpInt, eqOp, Frame.putO, Frame.put, Frame.keep, params, kid5, AVal.known, AVal.cells, ASt.push, loadAt, cut, mk, ASt.get, getL, results, result, ASt.trunc, underL, AVal.under]
  · simp [f345, hc, hst, hu, h1, h2, h3, h4, h5, ss, runBody, exec, exOps, exDraw, exTrace, wanted, aop, Opd.ev, Opd.taken, Frame.get, abin, aun, cmpInt, eqOp, Frame.putO, Frame.put, Frame.keep, params, kid5, AVal.known, AVal.cells, ASt.push, loadAt, cut, mk, ASt.get, getL, results, result, ASt.trunc, underL, AVal.under]

end Go.Proofs.YtdhgdpokdhjanaaGreat.Abs
