/- The shapes as a table in plain Lean. -/
import Derived.Test.YtdhgdpokdhjanaaGreatMX10
import Derived.Test.YtdhgdpokdhjanaaGreatMY3
set_option linter.unusedSimpArgs false
set_option linter.unusedVariables false
namespace Go.Proofs.YtdhgdpokdhjanaaGreat.Abs
open Go

/-- Tests of kinds. -/
inductive KP where
  | one (l : List Int) | expr | stmt | typ | place | opt (p : KP)
def KP.test : KP → Int → Bool
  | .one l, k => l.contains k
  | .expr, k => decide (20 ≤ k ∧ k ≤ 29)
  | .stmt, k => decide (12 ≤ k ∧ k ≤ 19)
  | .typ, k => decide (k = 9 ∨ k = 10)
  | .place, k => decide (k = 20 ∨ k = 21 ∨ k = 22)
  | .opt p, k => decide (k = 0) || p.test k
def KP.val : KP → AVal
  | .one l => .fn 380 [] [.ipt [.sl (l.map (AVal.int .i64)) l.length .exact] 0]
  | .expr => .fn 372 [] []
  | .stmt => .fn 374 [] []
  | .typ => .fn 375 [] []
  | .place => .fn 373 [] []
  | .opt p => .fn 382 [] [.ipt [p.val] 0]

def sInt : List UInt8 := [105, 110, 116]
def sBool : List UInt8 := [98, 111, 111, 108]

/-- Tests of texts. -/
inductive TP where
  | empty | name | num | scalar | words (l : List (List UInt8))
def TP.test : TP → List UInt8 → Bool
  | .empty, t => t == []
  | .name, t => okName t
  | .num, t => okNum t
  | .scalar, t => [sInt, sBool].contains t || okName t
  | .words l, t => l.contains t
def TP.val : TP → AVal
  | .empty => .fn 370 [] []
  | .name => .fn 295 [] []
  | .num => .fn 378 [] []
  | .scalar => .fn 386 [] [.ipt [.fn 389 [] [.ipt [.sl ([sInt, sBool].map AVal.str) 2 .exact] 0]] 0, .ipt [.fn 295 [] []] 0]
  | .words l => .fn 389 [] [.ipt [.sl (l.map AVal.str) l.length .exact] 0]

structure Shp where
  tx : TP
  kids : List KP
  list : Option KP
  most : Nat
def kidsVal : List KP → AVal
  | [] => .nils
  | l => .sl (l.map KP.val) l.length .exact
def listVal : Option KP → AVal
  | none => .nilf
  | some p => p.val
def Shp.val (s : Shp) : AVal := .agg [s.tx.val, kidsVal s.kids, listVal s.list, .int .i64 s.most]

def opsL : List (List UInt8) := [[111, 114], [97, 110, 100], [61, 61], [33, 61], [60], [60, 61], [62], [62, 61], [43], [45], [42], [47], [37]]
def shp : List (Int × Shp) := [
  (0, ⟨.empty, [], none, 0⟩),
  (2, ⟨.empty, [], some (.one [3, 5]), 0⟩),
  (3, ⟨.name, [], some (.one [4]), 1⟩),
  (4, ⟨.name, [.one [9]], none, 0⟩),
  (5, ⟨.name, [.one [6], .opt .typ, .one [11]], none, 0⟩),
  (6, ⟨.empty, [], some (.one [7, 8]), 0⟩),
  (7, ⟨.name, [.opt .typ], none, 0⟩),
  (8, ⟨.name, [.opt .typ], none, 0⟩),
  (9, ⟨.scalar, [], none, 0⟩),
  (10, ⟨.num, [], none, 0⟩),
  (11, ⟨.empty, [], some .stmt, 0⟩),
  (12, ⟨.name, [.opt .typ, .expr], none, 0⟩),
  (13, ⟨.empty, [.place, .expr], none, 0⟩),
  (14, ⟨.empty, [.expr, .one [11], .opt (.one [11, 14])], none, 0⟩),
  (15, ⟨.empty, [.expr, .one [11]], none, 0⟩),
  (16, ⟨.name, [.expr, .expr, .one [11]], none, 0⟩),
  (17, ⟨.empty, [.opt .expr], none, 0⟩),
  (18, ⟨.empty, [.expr], none, 0⟩),
  (19, ⟨.name, [], some .expr, 0⟩),
  (20, ⟨.name, [], none, 0⟩),
  (21, ⟨.empty, [.one [20], .expr], none, 0⟩),
  (22, ⟨.name, [.one [20]], none, 0⟩),
  (23, ⟨.empty, [.one [20]], none, 0⟩),
  (24, ⟨.num, [], none, 0⟩),
  (25, ⟨.words [[116, 114, 117, 101], [102, 97, 108, 115, 101]], [], none, 0⟩),
  (26, ⟨.empty, [], some .expr, 1⟩),
  (27, ⟨.name, [], some .expr, 0⟩),
  (28, ⟨.words [[45], [110, 111, 116]], [.expr], none, 0⟩),
  (29, ⟨.words opsL, [.expr, .expr], none, 0⟩)]
theorem tab_is : tab = shp.map fun p => (p.1, p.2.val) := rfl

def lookK (k : Int) : List (Int × Shp) → Option Shp
  | [] => none
  | (x, s) :: r => if k = x then some s else lookK k r

theorem find_shp (k : Int) : ∀ l : List (Int × Shp), Abs.find .int (.int .i64 k) (l.map fun p => .int .i64 p.1) (l.map fun p => p.2.val) = some ((lookK k l).map Shp.val)
  | [] => rfl
  | (x, v) :: es => by
    have ih := find_shp k es
    simp only [List.map_cons, Abs.find, keq, lookK]
    by_cases h : k = x
    · simp [h]
    · have : decide (k = x) = false := by simpa using h
      simp only [if_true, this, if_neg h]
      exact ih

def tests : List KP → List Int → Bool
  | p :: ps, k :: ks => p.test k && tests ps ks
  | _, _ => true
def Shp.fits (s : Shp) (t : List UInt8) (ks : List Int) : Bool := s.tx.test t && (match s.list with
  | none => decide (ks.length = s.kids.length) && tests s.kids ks
  | some p => decide (s.most ≤ ks.length) && ks.all p.test)

def fieldOK : List Nd → Bool
  | [] => true
  | n :: _ => [sInt, sBool].contains n.text
def nodeOK : Nd → Bool
  | .mk k t ks => match lookK k shp with
    | none => false
    | some s => s.fits t (ks.map Nd.kind) && (!(k == 4) || fieldOK ks)
/-- All nodes have their shapes. -/
def Nd.ok (n : Nd) : Bool := n.all.all nodeOK

end Go.Proofs.YtdhgdpokdhjanaaGreat.Abs
/- tree.shapes' tests, and fits. -/
namespace Go.Proofs.YtdhgdpokdhjanaaGreat.Abs
open Go

def oneLoop : ACode := match f446.code with
  | .seq _ (.seq (.seq _ (.block _ (.loop b _))) _) => b
  | _ => .bad

theorem one_cut {l : List (Int)} {i : Nat} {x : Int} {r : List (Int)} (h : l.drop i = x :: r) : cut (l.map (AVal.int .i64)) i 1 = some [AVal.int .i64 x] := cut_get (by
  have : (l.drop i)[0]? = some x := by rw [h]; rfl
  rw [List.getElem?_drop] at this
  rw [List.getElem?_map]
  simp only [Nat.add_zero] at this
  rw [this]
  rfl)

theorem one_loop (l : List (Int)) (hl : l.length ≤ limit) (v : Int) : ∀ (r : List (Int)) (i : Nat), l.drop i = r → i ≤ l.length →
    if r.contains v = true then ∃ j : Nat, Loop C1 oneLoop [0, 1, 7, 8] [(0, .sl (l.map (AVal.int .i64)) l.length .exact), (1, AVal.int .i64 v), (7, .int .i64 l.length), (8, .int .i64 i)] ⟨0, []⟩ = some (.ret, [(4, .int .i64 j)], ⟨0, []⟩)
    else Loop C1 oneLoop [0, 1, 7, 8] [(0, .sl (l.map (AVal.int .i64)) l.length .exact), (1, AVal.int .i64 v), (7, .int .i64 l.length), (8, .int .i64 i)] ⟨0, []⟩ =
      some (.exit 0, [(0, .sl (l.map (AVal.int .i64)) l.length .exact), (1, AVal.int .i64 v), (7, .int .i64 l.length), (8, .int .i64 l.length), (9, .bool false)], ⟨0, []⟩)
  | [], i, h, hi => by
    have : i = l.length := by
      have := congrArg List.length h
      simp only [List.length_drop, List.length_nil] at this
      omega
    subst this
    simp only [List.contains_nil, Bool.false_eq_true, if_false]
    rw [Loop_eq]
    simp [stepLoop, oneLoop, f446, ss, runBody, exec, exOps, exDraw, exTrace, wanted, aop, Opd.ev, Opd.taken, Frame.get, abin, aun, cmpInt, eqOp, Frame.putO, Frame.put, Frame.keep, params, kid5, AVal.known, AVal.cells, ASt.push, loadAt, cut, mk, ASt.get, getL, results, result, ASt.trunc, underL, AVal.under]
  | x :: r, i, h, hi => by
    have hlt : i < l.length := by
      have := congrArg List.length h
      simp only [List.length_drop, List.length_cons] at this
      omega
    have hcut := one_cut h
    have hw : IntKind.wrap .i64 ((i : Int) + 1) = ((i + 1 : Nat) : Int) := by
      rw [wrap_i64 (by omega) (by unfold limit at hl; omega)]; rfl
    have ih := one_loop l hl v r (i + 1) (by rw [← List.drop_drop, h]; rfl) (by omega)
    rw [Loop_eq]
    by_cases hx : v = x
    · subst hx
      rw [if_pos (by simp)]
      refine ⟨i, ?_⟩
      simp [stepLoop, oneLoop, f446, hlt, hcut, ss, runBody, exec, exOps, exDraw, exTrace, wanted, aop, Opd.ev, Opd.taken, Frame.get, abin, aun, cmpInt, eqOp, Frame.putO, Frame.put, Frame.keep, params, kid5, AVal.known, AVal.cells, ASt.push, loadAt, mk, ASt.get, getL, results, result, ASt.trunc, underL, AVal.under]
    · have hx2 : ¬ x = v := fun e => hx e.symm
      have hcon : (x :: r).contains v = r.contains v := by
        have : (v == x) = false := by simpa using hx
        simp only [List.contains_cons, this, Bool.false_or]
      rw [hcon]
      split at ih
      · rename_i hr
        rw [if_pos hr]
        obtain ⟨j, ih⟩ := ih
        refine ⟨j, ?_⟩
        rw [← ih]
        simp [stepLoop, oneLoop, f446, hlt, hcut, hx, hx2, hw, ss, runBody, exec, exOps, exDraw, exTrace, wanted, aop, Opd.ev, Opd.taken, Frame.get, abin, aun, cmpInt, eqOp, Frame.putO, Frame.put, Frame.keep, params, kid5, AVal.known, AVal.cells, ASt.push, loadAt, mk, ASt.get, getL, results, result, ASt.trunc, underL, AVal.under]
      · rename_i hr
        rw [if_neg hr, ← ih]
        simp [stepLoop, oneLoop, f446, hlt, hcut, hx, hx2, hw, ss, runBody, exec, exOps, exDraw, exTrace, wanted, aop, Opd.ev, Opd.taken, Frame.get, abin, aun, cmpInt, eqOp, Frame.putO, Frame.put, Frame.keep, params, kid5, AVal.known, AVal.cells, ASt.push, loadAt, mk, ASt.get, getL, results, result, ASt.trunc, underL, AVal.under]

theorem one_index (l : List (Int)) (hl : l.length ≤ limit) (v : Int) : ∃ j : Int, Call C1 446 [.sl (l.map (AVal.int .i64)) l.length .exact, AVal.int .i64 v] ⟨0, []⟩ = some (.int .i64 j, ⟨0, []⟩) ∧ decide (0 ≤ j) = l.contains v := by
  have h := one_loop l hl v l 0 rfl (Nat.zero_le _)
  split at h
  · rename_i hr
    obtain ⟨j, h⟩ := h
    refine ⟨j, ?_, by rw [hr]; simp⟩
    rw [run1_of (af := f446) rfl rfl]
    simp [oneLoop, f446] at h
    simp [f446, h, ss, runBody, exec, exOps, exDraw, exTrace, wanted, aop, Opd.ev, Opd.taken, Frame.get, abin, aun, cmpInt, eqOp, Frame.putO, Frame.put, Frame.keep, params, kid5, AVal.known, AVal.cells, ASt.push, loadAt, cut, mk, ASt.get, getL, results, result, ASt.trunc, underL, AVal.under]
  · rename_i hr
    refine ⟨-1, ?_, by have : l.contains v = false := by simpa using hr
                       rw [this]; rfl⟩
    rw [run1_of (af := f446) rfl rfl]
    simp [oneLoop, f446] at h
    simp [f446, h, ss, runBody, exec, exOps, exDraw, exTrace, wanted, aop, Opd.ev, Opd.taken, Frame.get, abin, aun, cmpInt, eqOp, Frame.putO, Frame.put, Frame.keep, params, kid5, AVal.known, AVal.cells, ASt.push, loadAt, cut, mk, ASt.get, getL, results, result, ASt.trunc, underL, AVal.under]

theorem one_contains (l : List (Int)) (hl : l.length ≤ limit) (v : Int) : Call C1 439 [.sl (l.map (AVal.int .i64)) l.length .exact, AVal.int .i64 v] ⟨0, []⟩ = some (.bool (l.contains v), ⟨0, []⟩) := by
  obtain ⟨j, h, hj⟩ := one_index l hl v
  rw [run1_of (af := f439) rfl rfl, ← hj]
  have hu : underL 0 (l.map (AVal.int .i64)) = true := underL_all.2 (fun a ha => by
    obtain ⟨b, _, rfl⟩ := List.mem_map.1 ha
    rfl)
  generalize l.map (AVal.int .i64) = c at *
  simp [f439, h, hu, Own.under, ss, runBody, exec, exOps, exDraw, exTrace, wanted, aop, Opd.ev, Opd.taken, Frame.get, abin, aun, cmpInt, eqOp, Frame.putO, Frame.put, Frame.keep, params, kid5, AVal.known, AVal.cells, ASt.push, loadAt, cut, mk, ASt.get, getL, results, result, ASt.trunc, underL, AVal.under]

theorem one_call (l : List (Int)) (hl : l.length ≤ limit) (v : Int) (s : ASt) : Call C1 380 [AVal.int .i64 v, .ipt [.sl (l.map (AVal.int .i64)) l.length .exact] 0] s = some (.bool (l.contains v), s) := by
  have h := one_contains l hl v
  rw [run1_of (af := f380) rfl rfl]
  have hu : underL 0 (l.map (AVal.int .i64)) = true := underL_all.2 (fun a ha => by
    obtain ⟨b, _, rfl⟩ := List.mem_map.1 ha
    rfl)
  generalize l.contains v = q at h
  generalize l.map (AVal.int .i64) = c at *
  simp [f380, h, hu, Own.under, ss, runBody, exec, exOps, exDraw, exTrace, wanted, aop, Opd.ev, Opd.taken, Frame.get, abin, aun, cmpInt, eqOp, Frame.putO, Frame.put, Frame.keep, params, kid5, AVal.known, AVal.cells, ASt.push, loadAt, cut, mk, ASt.get, getL, results, result, ASt.trunc, underL, AVal.under]

def wordLoop : ACode := match f447.code with
  | .seq _ (.seq (.seq _ (.block _ (.loop b _))) _) => b
  | _ => .bad

theorem word_cut {l : List (List UInt8)} {i : Nat} {x : List UInt8} {r : List (List UInt8)} (h : l.drop i = x :: r) : cut (l.map (AVal.str)) i 1 = some [AVal.str x] := cut_get (by
  have : (l.drop i)[0]? = some x := by rw [h]; rfl
  rw [List.getElem?_drop] at this
  rw [List.getElem?_map]
  simp only [Nat.add_zero] at this
  rw [this]
  rfl)

theorem word_loop (l : List (List UInt8)) (hl : l.length ≤ limit) (v : List UInt8) : ∀ (r : List (List UInt8)) (i : Nat), l.drop i = r → i ≤ l.length →
    if r.contains v = true then ∃ j : Nat, Loop C1 wordLoop [0, 1, 7, 8] [(0, .sl (l.map (AVal.str)) l.length .exact), (1, AVal.str v), (7, .int .i64 l.length), (8, .int .i64 i)] ⟨0, []⟩ = some (.ret, [(4, .int .i64 j)], ⟨0, []⟩)
    else Loop C1 wordLoop [0, 1, 7, 8] [(0, .sl (l.map (AVal.str)) l.length .exact), (1, AVal.str v), (7, .int .i64 l.length), (8, .int .i64 i)] ⟨0, []⟩ =
      some (.exit 0, [(0, .sl (l.map (AVal.str)) l.length .exact), (1, AVal.str v), (7, .int .i64 l.length), (8, .int .i64 l.length), (9, .bool false)], ⟨0, []⟩)
  | [], i, h, hi => by
    have : i = l.length := by
      have := congrArg List.length h
      simp only [List.length_drop, List.length_nil] at this
      omega
    subst this
    simp only [List.contains_nil, Bool.false_eq_true, if_false]
    rw [Loop_eq]
    simp [stepLoop, wordLoop, f447, ss, runBody, exec, exOps, exDraw, exTrace, wanted, aop, Opd.ev, Opd.taken, Frame.get, abin, aun, cmpInt, eqOp, Frame.putO, Frame.put, Frame.keep, params, kid5, AVal.known, AVal.cells, ASt.push, loadAt, cut, mk, ASt.get, getL, results, result, ASt.trunc, underL, AVal.under]
  | x :: r, i, h, hi => by
    have hlt : i < l.length := by
      have := congrArg List.length h
      simp only [List.length_drop, List.length_cons] at this
      omega
    have hcut := word_cut h
    have hw : IntKind.wrap .i64 ((i : Int) + 1) = ((i + 1 : Nat) : Int) := by
      rw [wrap_i64 (by omega) (by unfold limit at hl; omega)]; rfl
    have ih := word_loop l hl v r (i + 1) (by rw [← List.drop_drop, h]; rfl) (by omega)
    rw [Loop_eq]
    by_cases hx : v = x
    · subst hx
      rw [if_pos (by simp)]
      refine ⟨i, ?_⟩
      simp [stepLoop, wordLoop, f447, hlt, hcut, ss, runBody, exec, exOps, exDraw, exTrace, wanted, aop, Opd.ev, Opd.taken, Frame.get, abin, aun, cmpInt, eqOp, Frame.putO, Frame.put, Frame.keep, params, kid5, AVal.known, AVal.cells, ASt.push, loadAt, mk, ASt.get, getL, results, result, ASt.trunc, underL, AVal.under]
    · have hx2 : ¬ x = v := fun e => hx e.symm
      have hcon : (x :: r).contains v = r.contains v := by
        have : (v == x) = false := by simpa using hx
        simp only [List.contains_cons, this, Bool.false_or]
      rw [hcon]
      split at ih
      · rename_i hr
        rw [if_pos hr]
        obtain ⟨j, ih⟩ := ih
        refine ⟨j, ?_⟩
        rw [← ih]
        simp [stepLoop, wordLoop, f447, hlt, hcut, hx, hx2, hw, ss, runBody, exec, exOps, exDraw, exTrace, wanted, aop, Opd.ev, Opd.taken, Frame.get, abin, aun, cmpInt, eqOp, Frame.putO, Frame.put, Frame.keep, params, kid5, AVal.known, AVal.cells, ASt.push, loadAt, mk, ASt.get, getL, results, result, ASt.trunc, underL, AVal.under]
      · rename_i hr
        rw [if_neg hr, ← ih]
        simp [stepLoop, wordLoop, f447, hlt, hcut, hx, hx2, hw, ss, runBody, exec, exOps, exDraw, exTrace, wanted, aop, Opd.ev, Opd.taken, Frame.get, abin, aun, cmpInt, eqOp, Frame.putO, Frame.put, Frame.keep, params, kid5, AVal.known, AVal.cells, ASt.push, loadAt, mk, ASt.get, getL, results, result, ASt.trunc, underL, AVal.under]

theorem word_index (l : List (List UInt8)) (hl : l.length ≤ limit) (v : List UInt8) : ∃ j : Int, Call C1 447 [.sl (l.map (AVal.str)) l.length .exact, AVal.str v] ⟨0, []⟩ = some (.int .i64 j, ⟨0, []⟩) ∧ decide (0 ≤ j) = l.contains v := by
  have h := word_loop l hl v l 0 rfl (Nat.zero_le _)
  split at h
  · rename_i hr
    obtain ⟨j, h⟩ := h
    refine ⟨j, ?_, by rw [hr]; simp⟩
    rw [run1_of (af := f447) rfl rfl]
    simp [wordLoop, f447] at h
    simp [f447, h, ss, runBody, exec, exOps, exDraw, exTrace, wanted, aop, Opd.ev, Opd.taken, Frame.get, abin, aun, cmpInt, eqOp, Frame.putO, Frame.put, Frame.keep, params, kid5, AVal.known, AVal.cells, ASt.push, loadAt, cut, mk, ASt.get, getL, results, result, ASt.trunc, underL, AVal.under]
  · rename_i hr
    refine ⟨-1, ?_, by have : l.contains v = false := by simpa using hr
                       rw [this]; rfl⟩
    rw [run1_of (af := f447) rfl rfl]
    simp [wordLoop, f447] at h
    simp [f447, h, ss, runBody, exec, exOps, exDraw, exTrace, wanted, aop, Opd.ev, Opd.taken, Frame.get, abin, aun, cmpInt, eqOp, Frame.putO, Frame.put, Frame.keep, params, kid5, AVal.known, AVal.cells, ASt.push, loadAt, cut, mk, ASt.get, getL, results, result, ASt.trunc, underL, AVal.under]

theorem word_contains (l : List (List UInt8)) (hl : l.length ≤ limit) (v : List UInt8) : Call C1 440 [.sl (l.map (AVal.str)) l.length .exact, AVal.str v] ⟨0, []⟩ = some (.bool (l.contains v), ⟨0, []⟩) := by
  obtain ⟨j, h, hj⟩ := word_index l hl v
  rw [run1_of (af := f440) rfl rfl, ← hj]
  have hu : underL 0 (l.map (AVal.str)) = true := underL_all.2 (fun a ha => by
    obtain ⟨b, _, rfl⟩ := List.mem_map.1 ha
    rfl)
  generalize l.map (AVal.str) = c at *
  simp [f440, h, hu, Own.under, ss, runBody, exec, exOps, exDraw, exTrace, wanted, aop, Opd.ev, Opd.taken, Frame.get, abin, aun, cmpInt, eqOp, Frame.putO, Frame.put, Frame.keep, params, kid5, AVal.known, AVal.cells, ASt.push, loadAt, cut, mk, ASt.get, getL, results, result, ASt.trunc, underL, AVal.under]

theorem word_call (l : List (List UInt8)) (hl : l.length ≤ limit) (v : List UInt8) (s : ASt) : Call C1 389 [AVal.str v, .ipt [.sl (l.map (AVal.str)) l.length .exact] 0] s = some (.bool (l.contains v), s) := by
  have h := word_contains l hl v
  rw [run1_of (af := f389) rfl rfl]
  have hu : underL 0 (l.map (AVal.str)) = true := underL_all.2 (fun a ha => by
    obtain ⟨b, _, rfl⟩ := List.mem_map.1 ha
    rfl)
  generalize l.contains v = q at h
  generalize l.map (AVal.str) = c at *
  simp [f389, h, hu, Own.under, ss, runBody, exec, exOps, exDraw, exTrace, wanted, aop, Opd.ev, Opd.taken, Frame.get, abin, aun, cmpInt, eqOp, Frame.putO, Frame.put, Frame.keep, params, kid5, AVal.known, AVal.cells, ASt.push, loadAt, cut, mk, ASt.get, getL, results, result, ASt.trunc, underL, AVal.under]

theorem kind_call {f : Nat} {af : AFunc} {lo hi : Int} (hx : C1.ext f = none) (hf : C1.funcs f = some af)
    (haf : af = ⟨1, .seq (.region none [⟨some 2, .mov (.val (.bool false)), none⟩] [0]) (.seq (.region none [⟨some 3, .mov (.tmp 0), none⟩,
  ⟨some 4, .bin .geq .num (.tmp 3) (.val (.int .i64 lo)), none⟩,
  ⟨some 5, .mov (.tmp 4), none⟩,
  ⟨some 6, .mov (.tmp 0), some (5, true)⟩,
  ⟨some 7, .bin .leq .num (.tmp 6) (.val (.int .i64 hi)), some (5, true)⟩,
  ⟨some 8, .pick (.tmp 5) (.tmp 7) (.val (.bool false)), none⟩,
  ⟨some 2, .mov (.tmp 8), none⟩] [2]) (.ret)), [.slot 2], false⟩) (c : Int) (s : ASt) : Call C1 f [.int .i64 c] s = some (.bool (decide (lo ≤ c ∧ c ≤ hi)), s) := by
  rw [run1_of hx hf, haf]
  by_cases h1 : lo ≤ c
  · by_cases h2 : c ≤ hi
    · simp [h1, h2, ss, runBody, exec, exOps, exDraw, exTrace, wanted, aop, Opd.ev, Opd.taken, Frame.get, abin, aun, cmpInt, eqOp, Frame.putO, Frame.put, Frame.keep, params, kid5, AVal.known, AVal.cells, ASt.push, loadAt, cut, mk, ASt.get, getL, results, result, ASt.trunc, underL, AVal.under]
    · simp [h1, h2, ss, runBody, exec, exOps, exDraw, exTrace, wanted, aop, Opd.ev, Opd.taken, Frame.get, abin, aun, cmpInt, eqOp, Frame.putO, Frame.put, Frame.keep, params, kid5, AVal.known, AVal.cells, ASt.push, loadAt, cut, mk, ASt.get, getL, results, result, ASt.trunc, underL, AVal.under]
  · simp [h1, ss, runBody, exec, exOps, exDraw, exTrace, wanted, aop, Opd.ev, Opd.taken, Frame.get, abin, aun, cmpInt, eqOp, Frame.putO, Frame.put, Frame.keep, params, kid5, AVal.known, AVal.cells, ASt.push, loadAt, cut, mk, ASt.get, getL, results, result, ASt.trunc, underL, AVal.under]

theorem typ_call (k : Int) (s : ASt) : Call C1 375 [.int .i64 k] s = some (.bool (decide (k = 9 ∨ k = 10)), s) := by
  rw [run1_of (af := f375) rfl rfl]
  by_cases h1 : k = 9
  · subst h1; simp [f375, ss, runBody, exec, exOps, exDraw, exTrace, wanted, aop, Opd.ev, Opd.taken, Frame.get, abin, aun, cmpInt, eqOp, Frame.putO, Frame.put, Frame.keep, params, kid5, AVal.known, AVal.cells, ASt.push, loadAt, cut, mk, ASt.get, getL, results, result, ASt.trunc, underL, AVal.under]
  · by_cases h2 : k = 10
    · subst h2; simp [f375, ss, runBody, exec, exOps, exDraw, exTrace, wanted, aop, Opd.ev, Opd.taken, Frame.get, abin, aun, cmpInt, eqOp, Frame.putO, Frame.put, Frame.keep, params, kid5, AVal.known, AVal.cells, ASt.push, loadAt, cut, mk, ASt.get, getL, results, result, ASt.trunc, underL, AVal.under]
    · simp [f375, h1, h2, ss, runBody, exec, exOps, exDraw, exTrace, wanted, aop, Opd.ev, Opd.taken, Frame.get, abin, aun, cmpInt, eqOp, Frame.putO, Frame.put, Frame.keep, params, kid5, AVal.known, AVal.cells, ASt.push, loadAt, cut, mk, ASt.get, getL, results, result, ASt.trunc, underL, AVal.under]
theorem place_call (k : Int) (s : ASt) : Call C1 373 [.int .i64 k] s = some (.bool (decide (k = 20 ∨ k = 21 ∨ k = 22)), s) := by
  rw [run1_of (af := f373) rfl rfl]
  by_cases h1 : k = 20
  · subst h1; simp [f373, ss, runBody, exec, exOps, exDraw, exTrace, wanted, aop, Opd.ev, Opd.taken, Frame.get, abin, aun, cmpInt, eqOp, Frame.putO, Frame.put, Frame.keep, params, kid5, AVal.known, AVal.cells, ASt.push, loadAt, cut, mk, ASt.get, getL, results, result, ASt.trunc, underL, AVal.under]
  · by_cases h2 : k = 21
    · subst h2; simp [f373, ss, runBody, exec, exOps, exDraw, exTrace, wanted, aop, Opd.ev, Opd.taken, Frame.get, abin, aun, cmpInt, eqOp, Frame.putO, Frame.put, Frame.keep, params, kid5, AVal.known, AVal.cells, ASt.push, loadAt, cut, mk, ASt.get, getL, results, result, ASt.trunc, underL, AVal.under]
    · by_cases h3 : k = 22
      · subst h3; simp [f373, ss, runBody, exec, exOps, exDraw, exTrace, wanted, aop, Opd.ev, Opd.taken, Frame.get, abin, aun, cmpInt, eqOp, Frame.putO, Frame.put, Frame.keep, params, kid5, AVal.known, AVal.cells, ASt.push, loadAt, cut, mk, ASt.get, getL, results, result, ASt.trunc, underL, AVal.under]
      · simp [f373, h1, h2, h3, ss, runBody, exec, exOps, exDraw, exTrace, wanted, aop, Opd.ev, Opd.taken, Frame.get, abin, aun, cmpInt, eqOp, Frame.putO, Frame.put, Frame.keep, params, kid5, AVal.known, AVal.cells, ASt.push, loadAt, cut, mk, ASt.get, getL, results, result, ASt.trunc, underL, AVal.under]
theorem empty_call (t : List UInt8) (s : ASt) : Call C1 370 [.str t] s = some (.bool (t == []), s) := by
  rw [run1_of (af := f370) rfl rfl]
  have h : (t == []) = t.isEmpty := by cases t <;> rfl
  rw [h]
  simp [f370, ss, runBody, exec, exOps, exDraw, exTrace, wanted, aop, Opd.ev, Opd.taken, Frame.get, abin, aun, cmpInt, eqOp, Frame.putO, Frame.put, Frame.keep, params, kid5, AVal.known, AVal.cells, ASt.push, loadAt, cut, mk, ASt.get, getL, results, result, ASt.trunc, underL, AVal.under]

theorem le_limit {n : Nat} (h : n ≤ 100) : n ≤ limit := Nat.le_trans h (by decide)
def KP.small : KP → Bool
  | .one l => decide (l.length ≤ 100)
  | .opt p => p.small
  | _ => true

theorem KP.call : ∀ (p : KP), p.small = true → ∃ i cap, p.val = .fn i [] cap ∧ ∀ (k : Int) (s : ASt), Call C1 i (.int .i64 k :: cap) s = some (.bool (p.test k), s)
  | .one l, h => ⟨_, _, rfl, fun k s => one_call l (le_limit (of_decide_eq_true h)) k s⟩
  | .expr, _ => ⟨_, _, rfl, fun k s => kind_call (lo := 20) (hi := 29) rfl rfl rfl k s⟩
  | .stmt, _ => ⟨_, _, rfl, fun k s => kind_call (lo := 12) (hi := 19) rfl rfl rfl k s⟩
  | .typ, _ => ⟨_, _, rfl, fun k s => typ_call k s⟩
  | .place, _ => ⟨_, _, rfl, fun k s => place_call k s⟩
  | .opt p, h => by
    obtain ⟨i, cap, hv, hc⟩ := KP.call p h
    refine ⟨_, _, rfl, fun k s => ?_⟩
    rw [run1_of (af := f382) rfl rfl, hv]
    have hc := hc k s
    unfold KP.test
    by_cases h0 : k = 0
    · subst h0; simp [f382, ss, runBody, exec, exOps, exDraw, exTrace, wanted, aop, Opd.ev, Opd.taken, Frame.get, abin, aun, cmpInt, eqOp, Frame.putO, Frame.put, Frame.keep, params, kid5, AVal.known, AVal.cells, ASt.push, loadAt, cut, mk, ASt.get, getL, results, result, ASt.trunc, underL, AVal.under]
    · simp [f382, h0, hc, st_fn, ss, runBody, exec, exOps, exDraw, exTrace, wanted, aop, Opd.ev, Opd.taken, Frame.get, abin, aun, cmpInt, eqOp, Frame.putO, Frame.put, Frame.keep, params, kid5, AVal.known, AVal.cells, ASt.push, loadAt, cut, mk, ASt.get, getL, results, result, ASt.trunc, underL, AVal.under]

def TP.small : TP → Bool
  | .words l => decide (l.length ≤ 100)
  | _ => true

theorem TP.call : ∀ (p : TP), p.small = true → ∃ i cap, p.val = .fn i [] cap ∧ ∀ (t : List UInt8) (s : ASt), t.length ≤ limit → Call C1 i (.str t :: cap) s = some (.bool (p.test t), s)
  | .empty, _ => ⟨_, _, rfl, fun t s _ => empty_call t s⟩
  | .name, _ => ⟨_, _, rfl, fun t s h => name_call t h s⟩
  | .num, _ => ⟨_, _, rfl, fun t s h => tnum_call t h s⟩
  | .words l, h => ⟨_, _, rfl, fun t s _ => word_call l (le_limit (of_decide_eq_true h)) t s⟩
  | .scalar, _ => by
    refine ⟨_, _, rfl, fun t s h => ?_⟩
    have h1 := word_call [sInt, sBool] (by decide) t s
    have h2 := name_call t h s
    rw [run1_of (af := f386) rfl rfl]
    have htest : TP.scalar.test t = ([sInt, sBool].contains t || okName t) := rfl
    rw [htest]
    generalize [sInt, sBool].contains t = q at h1 ⊢
    have hm : ([sInt, sBool].map AVal.str) = [.str sInt, .str sBool] := rfl
    rw [hm] at h1 ⊢
    simp only [List.length_cons, List.length_nil, Nat.zero_add, Nat.reduceAdd] at h1
    cases q
    · simp [f386, h1, h2, st_fn, ss, runBody, exec, exOps, exDraw, exTrace, wanted, aop, Opd.ev, Opd.taken, Frame.get, abin, aun, cmpInt, eqOp, Frame.putO, Frame.put, Frame.keep, params, kid5, AVal.known, AVal.cells, ASt.push, loadAt, cut, mk, ASt.get, getL, results, result, ASt.trunc, underL, AVal.under]
    · simp [f386, h1, st_fn, ss, runBody, exec, exOps, exDraw, exTrace, wanted, aop, Opd.ev, Opd.taken, Frame.get, abin, aun, cmpInt, eqOp, Frame.putO, Frame.put, Frame.keep, params, kid5, AVal.known, AVal.cells, ASt.push, loadAt, cut, mk, ASt.get, getL, results, result, ASt.trunc, underL, AVal.under]

end Go.Proofs.YtdhgdpokdhjanaaGreat.Abs
/- fits: whether a node has a shape. -/
namespace Go.Proofs.YtdhgdpokdhjanaaGreat.Abs
open Go

theorem rd_fn (r c f : Nat) (a b : List AVal) : (AVal.fn f a b).read r c = .fn f a b := rfl
theorem rd_nilf (r c : Nat) : AVal.nilf.read r c = .nilf := rfl
theorem st_nilf : AVal.nilf.strip = .nilf := rfl
theorem ndV_one {kv : AVal} {z : List Nd} (h : ndV kv = some z) : kv.one = true := by
  rcases ndV_cases h with ⟨rfl, _⟩ | ⟨_, _, _, rfl, _⟩ <;> rfl
theorem ndV_strip {kv : AVal} {z : List Nd} (h : ndV kv = some z) : kv.strip = kv := by
  rcases ndV_cases h with ⟨rfl, _⟩ | ⟨_, _, _, rfl, rfl | rfl, _⟩ <;> rfl

mutual
theorem ndV_under : ∀ (kv : AVal) {z : List Nd}, ndV kv = some z → kv.under 0 = true
  | .sl cs n o, z, h => by
    rcases ndV_cases h with ⟨h1, _⟩ | ⟨cs1, n1, o1, h1, h2, h3, h4, h5⟩
    · cases h1
    · cases h1
      have := ndL_under cs h5
      rcases h2 with rfl | rfl <;> simp [AVal.under, this, Own.under]
  | .nils, _, _ => rfl
  | .undef, _, h => by simp [ndV] at h
  | .bool _, _, h => by simp [ndV] at h
  | .int _ _, _, h => by simp [ndV] at h
  | .str _, _, h => by simp [ndV] at h
  | .nilp, _, h => by simp [ndV] at h
  | .nilm, _, h => by simp [ndV] at h
  | .nilf, _, h => by simp [ndV] at h
  | .nili, _, h => by simp [ndV] at h
  | .ref _ _, _, h => by simp [ndV] at h
  | .ipt _ _, _, h => by simp [ndV] at h
  | .map _, _, h => by simp [ndV] at h
  | .imap _ _, _, h => by simp [ndV] at h
  | .fn _ _ _, _, h => by simp [ndV] at h
  | .agg _, _, h => by simp [ndV] at h
  | .tup _, _, h => by simp [ndV] at h
theorem ndL_under : ∀ (cs : List AVal) {z : List Nd}, ndL cs = some z → underL 0 cs = true
  | [], _, _ => rfl
  | .int .i64 k :: .str t :: .int .i64 p :: .int .i64 e :: kv :: r, z, h => by
    rcases ndL_cons h with ⟨h1, _⟩ | ⟨k1, t1, p1, e1, kv1, r1, ks, zs, h1, h2, h3, _⟩
    · cases h1
    · simp only [kid5, List.cons_append, List.nil_append, List.cons.injEq] at h1
      obtain ⟨_, _, _, _, rfl, rfl⟩ := h1
      have a1 := ndV_under kv h2
      have a2 := ndL_under r h3
      simp [underL, AVal.under, a1, a2]
  | [a], _, h => by
    rcases ndL_cons h with ⟨h1, _⟩ | ⟨k1, t1, p1, e1, kv1, r1, ks, zs, h1, _⟩ <;> simp [kid5] at h1
  | [a, b], _, h => by
    rcases ndL_cons h with ⟨h1, _⟩ | ⟨k1, t1, p1, e1, kv1, r1, ks, zs, h1, _⟩ <;> simp [kid5] at h1
  | [a, b, c], _, h => by
    rcases ndL_cons h with ⟨h1, _⟩ | ⟨k1, t1, p1, e1, kv1, r1, ks, zs, h1, _⟩ <;> simp [kid5] at h1
  | [a, b, c, d], _, h => by
    rcases ndL_cons h with ⟨h1, _⟩ | ⟨k1, t1, p1, e1, kv1, r1, ks, zs, h1, _⟩ <;> simp [kid5] at h1
  | a :: b :: c :: d :: e :: r, z, h => by
    rcases ndL_cons h with ⟨h1, _⟩ | ⟨k1, t1, p1, e1, kv1, r1, ks, zs, h1, h2, h3, _⟩
    · cases h1
    · simp only [kid5, List.cons_append, List.nil_append, List.cons.injEq] at h1
      obtain ⟨rfl, rfl, rfl, rfl, rfl, rfl⟩ := h1
      have a1 := ndV_under _ h2
      have a2 := ndL_under _ h3
      simp [underL, AVal.under, a1, a2]
end

end Go.Proofs.YtdhgdpokdhjanaaGreat.Abs
