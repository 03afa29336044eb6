/- The law PrinterLevels in the abstract machine: true, whatever the nodes and the index. -/
import Derived.Test.YtdhgdpokdhjanaaGreatX11
set_option linter.unusedSimpArgs false
set_option linter.unusedVariables false
namespace Go.Proofs.YtdhgdpokdhjanaaGreat.Abs
open Go

theorem exec_seq_n {K : CallFn} {L : LoopFn} {a b : ACode} {A A1 : Frame} {s s1 : ASt} (h : exec K L a A s = some (.normal, A1, s1)) : exec K L (.seq a b) A s = exec K L b A1 s1 := by
  simp only [exec, h, Option.bind_some]
theorem exec_seq_r {K : CallFn} {L : LoopFn} {a b : ACode} {A A1 : Frame} {s s1 : ASt} (h : exec K L a A s = some (.ret, A1, s1)) : exec K L (.seq a b) A s = some (.ret, A1, s1) := by
  simp only [exec, h, Option.bind_some]

def lwS (n1 n2 : List AVal) : ASt := ⟨2, [.cells n2, .cells n1]⟩
def lw0 : ACode := part 0 f116.code
def lw1 : ACode := inner 0 (part 1 f116.code)
def lw1c : ACode := inner 1 (part 1 f116.code)
def lw2 : ACode := part 2 f116.code
theorem f116_is : f116.code = .seq lw0 (.seq (.seq lw1 lw1c) (.seq lw2 .ret)) := rfl
theorem ex_lw0 {K : CallFn} {L : LoopFn} (n1 n2 : List AVal) (i : Int) : exec K L lw0 [(0, .agg n1), (1, .agg n2), (2, .int .i64 i)] ⟨0, []⟩ = some (.normal, [(2, .int .i64 i), (3, .ref 0 0), (4, .ref 1 0)], lwS n1 n2) := rfl

theorem callp_of {f : Nat} {args : List Opd} {A : Frame} {s : ASt} {v : AVal} {xs : List AVal} (ha : args.map (·.ev A) = xs) (hu : underL 0 xs = true) (h : Call C2 f xs ⟨0, []⟩ = some (v, ⟨0, []⟩)) : aop (Call C2) (.callp (.fn f) args) A s = some (v, A, s) := by
  show (if underL 0 ([] ++ args.map (·.ev A) ++ []) then (Call C2 f ([] ++ args.map (·.ev A) ++ []) ⟨0, []⟩).bind _ else none) = _
  rw [ha, List.nil_append, List.append_nil, hu, h]
  rfl

theorem load_of {s : ASt} {r : Nat} {k : Int} {t : List UInt8} {p e : Int} {kv : AVal} (hg : s.get r = some (.cells (kid5 k t p e kv))) (hst : kv.strip = kv) : loadAt s 5 true (.ref r 0) = some (.agg (kid5 k t p e kv)) := by
  simp [loadAt, hg, kid5, cut, st_int, st_str, hst]

section
variable {kv kv2 : AVal} {k : Int} {t : List UInt8} {p e : Int} {k2 : Int} {t2 : List UInt8} {p2 e2 : Int} {i : Int}

theorem ex_lw1 (hst : kv.strip = kv) (hu : kv.under 0 = true) (hst2 : kv2.strip = kv2) (hu2 : kv2.under 0 = true) {b b2 : Bool} (hb : Call C2 172 [.agg (kid5 k t p e kv), .int .i64 100] ⟨0, []⟩ = some (.bool b, ⟨0, []⟩))
    (hb2 : Call C2 172 [.agg (kid5 k2 t2 p2 e2 kv2), .int .i64 100] ⟨0, []⟩ = some (.bool b2, ⟨0, []⟩)) : exec (Call C2) (Loop C2) lw1 [(2, .int .i64 i), (3, .ref 0 0), (4, .ref 1 0)] (lwS (kid5 k t p e kv) (kid5 k2 t2 p2 e2 kv2)) =
      some (.normal, [(2, .int .i64 i), (3, .ref 0 0), (4, .ref 1 0), (14, .bool (!(b && b2)))], lwS (kid5 k t p e kv) (kid5 k2 t2 p2 e2 kv2)) := by
  have l1 : loadAt (lwS (kid5 k t p e kv) (kid5 k2 t2 p2 e2 kv2)) 5 true (.ref 0 0) = some (.agg (kid5 k t p e kv)) := load_of rfl hst
  have l2 : loadAt (lwS (kid5 k t p e kv) (kid5 k2 t2 p2 e2 kv2)) 5 true (.ref 1 0) = some (.agg (kid5 k2 t2 p2 e2 kv2)) := load_of rfl hst2
  have u1 : underL 0 (kid5 k t p e kv) = true := by simp [kid5, underL, AVal.under, hu]
  have u2 : underL 0 (kid5 k2 t2 p2 e2 kv2) = true := by simp [kid5, underL, AVal.under, hu2]
  generalize kid5 k t p e kv = n1 at *
  generalize kid5 k2 t2 p2 e2 kv2 = n2 at *
  generalize lwS n1 n2 = s at *
  cases b <;> cases b2 <;> simp [lw1, inner, part, f116, exec, exOps, wanted, aop, Opd.ev, Frame.get, st_ref, st_int, st_agg, st_bool, l1, l2, u1, u2, hb, hb2, Frame.putO, Frame.put, Frame.keep, aun, underL, AVal.under]

theorem ex_lw1t (s : ASt) : exec (Call C2) (Loop C2) lw1c [(2, .int .i64 i), (3, .ref 0 0), (4, .ref 1 0), (14, .bool true)] s = some (.ret, [(6, .bool true)], s) := by
  have aw := awake
  simp [lw1c, inner, part, f116, exec, exOps, wanted, aop, Opd.ev, Frame.get, st_bool, aw, Frame.putO, Frame.put, Frame.keep, underL]
theorem ex_lw1f (s : ASt) : exec (Call C2) (Loop C2) lw1c [(2, .int .i64 i), (3, .ref 0 0), (4, .ref 1 0), (14, .bool false)] s = some (.normal, [(2, .int .i64 i), (3, .ref 0 0), (4, .ref 1 0), (14, .bool false)], s) := rfl

theorem ex_lw2 (hst : kv.strip = kv) (hu : kv.under 0 = true) (hst2 : kv2.strip = kv2) (hu2 : kv2.under 0 = true) : exec (Call C2) (Loop C2) lw2 [(2, .int .i64 i), (3, .ref 0 0), (4, .ref 1 0), (14, .bool false)] (lwS (kid5 k t p e kv) (kid5 k2 t2 p2 e2 kv2)) =
      some (.normal, [(6, .bool true)], lwS (kid5 k t p e kv) (kid5 k2 t2 p2 e2 kv2)) := by
  have l1 : loadAt (lwS (kid5 k t p e kv) (kid5 k2 t2 p2 e2 kv2)) 5 true (.ref 0 0) = some (.agg (kid5 k t p e kv)) := load_of rfl hst
  have l2 : loadAt (lwS (kid5 k t p e kv) (kid5 k2 t2 p2 e2 kv2)) 5 true (.ref 1 0) = some (.agg (kid5 k2 t2 p2 e2 kv2)) := load_of rfl hst2
  have u1 : underL 0 (kid5 k t p e kv) = true := by simp [kid5, underL, AVal.under, hu]
  have u2 : underL 0 (kid5 k2 t2 p2 e2 kv2) = true := by simp [kid5, underL, AVal.under, hu2]
  have c1 := level_call k t p e kv
  have c2 := level2_call k t p e kv
  have c3 := paren_call k t p e kv hst hu i k2 t2 p2 e2 kv2 hst2 hu2 _ (needed_call k t p e kv hst hu i)
  have c4 := paren2_call k t p e kv hst hu i k2 t2 p2 e2 kv2 hst2 hu2
  have hn : needV k (lev k t) i = if lev k t = 8 ∨ lev k t = 0 then 1 else if k = 28 then lev k t else if lev k t = 4 ∨ i ≠ 0 then IntKind.wrap .i64 (lev k t + 1) else lev k t := rfl
  rw [← hn] at c3
  generalize decide (20 ≤ k2 ∧ k2 ≤ 29 ∧ lev k2 t2 < needV k (lev k t) i) = q at c3 c4
  generalize lev k t = l at c1 c2
  have aw := awake
  generalize kid5 k t p e kv = n1 at *
  generalize kid5 k2 t2 p2 e2 kv2 = n2 at *
  generalize lwS n1 n2 = s at *
  simp [lw2, part, f116, exec, exDraw_nil, exOps, wanted, aop, Opd.ev, Frame.get, st_ref, st_int, st_agg, st_bool, l1, l2, u1, u2, c1, c2, c3, c4, aw, Frame.putO, Frame.put, Frame.keep, abin, cmpInt, eqOp, underL, AVal.under]

theorem law_levels {y y2 : List (List AVal)} (h : preV kv = some y) (h2 : preV kv2 = some y2) (hl : y.length + 1 ≤ limit) (hl2 : y2.length + 1 ≤ limit) :
    Call C2 116 [.agg (kid5 k t p e kv), .agg (kid5 k2 t2 p2 e2 kv2), .int .i64 i] ⟨0, []⟩ = some (.bool true, ⟨0, []⟩) := by
  obtain ⟨b, hb⟩ := small_call h hl k t p e 100
  obtain ⟨b2, hb2⟩ := small_call h2 hl2 k2 t2 p2 e2 100
  have hst := preV_strip h
  have hu := preV_under h
  have hst2 := preV_strip h2
  have hu2 := preV_under h2
  have hex : exec (Call C2) (Loop C2) f116.code [(0, .agg (kid5 k t p e kv)), (1, .agg (kid5 k2 t2 p2 e2 kv2)), (2, .int .i64 i)] ⟨0, []⟩ = some (.ret, [(6, .bool true)], lwS (kid5 k t p e kv) (kid5 k2 t2 p2 e2 kv2)) := by
    rw [f116_is, exec_seq_n (ex_lw0 _ _ _)]
    by_cases hbb : (b && b2) = true
    · have e1 := ex_lw1 (i := i) hst hu hst2 hu2 hb hb2
      rw [hbb] at e1
      rw [exec_seq_n (a := .seq lw1 lw1c) (by rw [exec_seq_n e1]; exact ex_lw1f _), exec_seq_n (ex_lw2 hst hu hst2 hu2)]
      rfl
    · have e1 := ex_lw1 (i := i) hst hu hst2 hu2 hb hb2
      have hbb : (b && b2) = false := by simpa using hbb
      rw [hbb] at e1
      rw [exec_seq_r (a := .seq lw1 lw1c) (by rw [exec_seq_n e1]; exact ex_lw1t _)]
  rw [run_of (af := f116) rfl rfl]
  have h3 : runBody (Call C2) (Loop C2) f116 [.agg (kid5 k t p e kv), .agg (kid5 k2 t2 p2 e2 kv2), .int .i64 i] ⟨0, []⟩ = (exec (Call C2) (Loop C2) f116.code [(0, .agg (kid5 k t p e kv)), (1, .agg (kid5 k2 t2 p2 e2 kv2)), (2, .int .i64 i)] ⟨0, []⟩).bind (fun (e, A, s') =>
      match e with
      | .normal | .ret => do
        let v ← results A s' f116.results
        if f116.live ∨ s'.n = 0 then some (v, s') else do
        let v ← fz 0 s' depth v
        some (v, s'.trunc 0)
      | _ => none) := rfl
  rw [h3, hex]
  show (do
        let v ← some (AVal.bool true)
        if f116.live ∨ (2 : Nat) = 0 then some (v, lwS (kid5 k t p e kv) (kid5 k2 t2 p2 e2 kv2)) else do
        let v ← fz 0 (lwS (kid5 k t p e kv) (kid5 k2 t2 p2 e2 kv2)) depth v
        some (v, (lwS (kid5 k t p e kv) (kid5 k2 t2 p2 e2 kv2)).trunc 0)) = _
  simp only [Option.bind_eq_bind, Option.bind_some]
  rw [if_neg (by simp [f116]), fz_bool]
  rfl

end
end Go.Proofs.YtdhgdpokdhjanaaGreat.Abs
