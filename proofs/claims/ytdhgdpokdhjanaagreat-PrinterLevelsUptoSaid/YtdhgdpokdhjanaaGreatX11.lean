/- A tree is small or not; the law of the levels. -/
import Derived.Test.YtdhgdpokdhjanaaGreatX7
import Derived.Test.YtdhgdpokdhjanaaGreatX10
set_option linter.unusedSimpArgs false
set_option linter.unusedVariables false
namespace Go.Proofs.YtdhgdpokdhjanaaGreat.Abs
open Go

def smLoop : ACode := match f172.code with
  | .seq _ (.seq _ (.seq (.seq _ (.block _ (.loop b _))) _)) => b
  | _ => .bad

theorem flat_cut {y : List (List AVal)} (hy : ∀ x ∈ y, x.length = 5 ∧ x.all AVal.one = true) {i : Nat} {x : List AVal} {r : List (List AVal)} (h : y.drop i = x :: r) (j : Nat) (hj : j < 5) : (flat y)[i * 5 + j]? = x[j]? := by
  induction i generalizing y with
  | zero =>
    simp only [List.drop_zero] at h
    subst h
    have h5 := (hy x (by simp)).1
    unfold flat
    simp only [List.flatMap_cons, id, Nat.zero_mul, Nat.zero_add]
    rw [List.getElem?_append_left (by omega)]
  | succ i ih =>
    cases y with
    | nil => simp at h
    | cons z y =>
      have h5 := (hy z (by simp)).1
      have := ih (y := y) (fun w hw => hy w (by simp [hw])) (by simpa using h)
      unfold flat at this ⊢
      simp only [List.flatMap_cons, id]
      rw [List.getElem?_append_right (by rw [h5]; omega), h5, ← this]
      congr 1
      omega

theorem cut_get {cs : List AVal} {off : Nat} {x : AVal} (h : cs[off]? = some x) : cut cs off 1 = some [x] := by
  have hlt := (List.getElem?_eq_some_iff.1 h).1
  unfold cut
  rw [if_pos (by omega)]
  congr 1
  rw [List.drop_eq_getElem_cons hlt, (List.getElem?_eq_some_iff.1 h).2]
  rfl

theorem small_loop {y : List (List AVal)} (hy : ∀ x ∈ y, ∃ k t p e kv, x = kid5 k t p e kv ∧ kv.under 0 = true) (hy5 : ∀ x ∈ y, x.length = 5 ∧ x.all AVal.one = true) (hlim : y.length ≤ limit) {oa : Own} (hoa : oa = .exact ∨ oa = .mine 5) (m : Int) (x0 : List AVal) :
    ∀ (r : List (List AVal)) (i : Nat), y.drop i = r → i ≤ y.length →
      Loop C2 smLoop [1, 5, 6] [(1, .int .i64 m), (5, .sl (flat y) y.length oa), (6, .int .i64 i)] ⟨1, [.cells x0]⟩ = some (.ret, [(4, .bool false)], ⟨1, [.cells x0]⟩) ∨
      Loop C2 smLoop [1, 5, 6] [(1, .int .i64 m), (5, .sl (flat y) y.length oa), (6, .int .i64 i)] ⟨1, [.cells x0]⟩ = some (.exit 0, [(1, .int .i64 m), (5, .sl (flat y) y.length oa), (6, .int .i64 y.length), (12, .bool false)], ⟨1, [.cells x0]⟩)
  | [], i, h, hi => by
    have : i = y.length := by
      have := congrArg List.length h
      simp only [List.length_drop, List.length_nil] at this
      omega
    subst this
    right
    rw [Loop_eq]
    rcases hoa with rfl | rfl <;> simp [stepLoop, smLoop, f172, runBody, exec, exOps, exDraw, exTrace, wanted, aop, Opd.ev, Opd.taken, Frame.get, st_undef, st_bool, st_int, st_str, st_nils, st_sln, st_sle, st_slm, st_ref, st_ipt, st_map, st_imap, st_agg, st_tup, rd_bool, rd_int, rd_str, rd_sln, rd_sle, rd_nils, abin, aun, cmpInt, eqOp, Frame.putO, Frame.put, Frame.keep, params, kid5, AVal.known, AVal.cells, ASt.push, loadAt, cut, mk, ASt.get, getL, results, result, ASt.trunc, underL, AVal.under, fz_int, fz_bool]
  | x :: r, i, h, hi => by
    have hlt : i < y.length := by
      have := congrArg List.length h
      simp only [List.length_drop, List.length_cons] at this
      omega
    obtain ⟨k, t, p, e, kv, rfl, _⟩ := hy x (List.mem_of_mem_drop (by rw [h]; simp))
    have hcut : cut (flat y) (i * 5 + 1) 1 = some [.str t] := cut_get (by rw [flat_cut hy5 h 1 (by omega)]; rfl)
    have hw : IntKind.wrap .i64 ((i : Int) + 1) = ((i + 1 : Nat) : Int) := by
      rw [wrap_i64 (by omega) (by unfold limit at hlim; omega)]; rfl
    have ih := small_loop hy hy5 hlim hoa m x0 r (i + 1) (by rw [← List.drop_drop, h]; rfl) (by omega)
    rw [Loop_eq]
    by_cases hx : 60 < t.length
    · left
      have hx2 : (60 : Int) < (t.length : Int) := by omega
      rcases hoa with rfl | rfl <;> simp [stepLoop, smLoop, f172, hlt, hcut, hx, hx2, runBody, exec, exOps, exDraw, exTrace, wanted, aop, Opd.ev, Opd.taken, Frame.get, st_undef, st_bool, st_int, st_str, st_nils, st_sln, st_sle, st_slm, st_ref, st_ipt, st_map, st_imap, st_agg, st_tup, rd_bool, rd_int, rd_str, rd_sln, rd_sle, rd_nils, abin, aun, cmpInt, eqOp, Frame.putO, Frame.put, Frame.keep, params, kid5, AVal.known, AVal.cells, ASt.push, loadAt, mk, ASt.get, getL, results, result, ASt.trunc, underL, AVal.under, fz_int, fz_bool]
    · have hx2 : ¬ (60 : Int) < (t.length : Int) := by omega
      rcases hoa with rfl | rfl
      · simp [smLoop, f172] at ih
        simp [stepLoop, smLoop, f172, hlt, hcut, hx, hx2, hw, runBody, exec, exOps, exDraw, exTrace, wanted, aop, Opd.ev, Opd.taken, Frame.get, st_undef, st_bool, st_int, st_str, st_nils, st_sln, st_sle, st_slm, st_ref, st_ipt, st_map, st_imap, st_agg, st_tup, rd_bool, rd_int, rd_str, rd_sln, rd_sle, rd_nils, abin, aun, cmpInt, eqOp, Frame.putO, Frame.put, Frame.keep, params, kid5, AVal.known, AVal.cells, ASt.push, loadAt, mk, ASt.get, getL, results, result, ASt.trunc, underL, AVal.under, fz_int, fz_bool]
        exact ih
      · simp [smLoop, f172] at ih
        simp [stepLoop, smLoop, f172, hlt, hcut, hx, hx2, hw, runBody, exec, exOps, exDraw, exTrace, wanted, aop, Opd.ev, Opd.taken, Frame.get, st_undef, st_bool, st_int, st_str, st_nils, st_sln, st_sle, st_slm, st_ref, st_ipt, st_map, st_imap, st_agg, st_tup, rd_bool, rd_int, rd_str, rd_sln, rd_sle, rd_nils, abin, aun, cmpInt, eqOp, Frame.putO, Frame.put, Frame.keep, params, kid5, AVal.known, AVal.cells, ASt.push, loadAt, mk, ASt.get, getL, results, result, ASt.trunc, underL, AVal.under, fz_int, fz_bool]
        exact ih

theorem small_call {kv : AVal} {y : List (List AVal)} (h : preV kv = some y) (hlim : y.length + 1 ≤ limit) (k : Int) (t : List UInt8) (p e : Int) (m : Int) : ∃ b, Call C2 172 [.agg (kid5 k t p e kv), .int .i64 m] ⟨0, []⟩ = some (.bool b, ⟨0, []⟩) := by
  obtain ⟨o, ho, hN⟩ := nodes_go y.length k t p e kv y h (Nat.le_refl _) hlim
  have hst := preV_strip h
  have hu := preV_under h
  have h5 : ∀ x ∈ kid5 k t p e kv :: y, x.length = 5 ∧ x.all AVal.one = true := by
    intro x hx
    rcases List.mem_cons.1 hx with rfl | hx
    · refine ⟨rfl, ?_⟩
      have : kv.one = true := by rcases preV_cases h with ⟨rfl, _⟩ | ⟨_, _, _, rfl, _⟩ <;> rfl
      simp [kid5, one_int, one_str, this]
    · exact (pre_five.1 h (Nat.le_refl _)).1 x hx
  have hL := small_loop (y := kid5 k t p e kv :: y) (node_form h k t p e) h5 (by simpa using hlim) ho m (kid5 k t p e kv) _ 0 rfl (Nat.zero_le _)
  rw [run_of (af := f172) rfl rfl]
  generalize hF : flat (kid5 k t p e kv :: y) = F at hN hL
  simp only [List.length_cons] at hL
  simp [smLoop, f172, kid5] at hL
  simp only [kid5] at hN
  rcases hL with hL | hL
  · refine ⟨false, ?_⟩
    rcases ho with rfl | rfl <;> simp [f172, hN, hst, hu, hL, runBody, exec, exOps, exDraw, exTrace, wanted, aop, Opd.ev, Opd.taken, Frame.get, st_undef, st_bool, st_int, st_str, st_nils, st_sln, st_sle, st_slm, st_ref, st_ipt, st_map, st_imap, st_agg, st_tup, rd_bool, rd_int, rd_str, rd_sln, rd_sle, rd_nils, abin, aun, cmpInt, eqOp, Frame.putO, Frame.put, Frame.keep, params, kid5, AVal.known, AVal.cells, ASt.push, loadAt, cut, mk, ASt.get, getL, results, result, ASt.trunc, underL, AVal.under, fz_int, fz_bool]
  · refine ⟨decide ((y.length : Int) + 1 ≤ m), ?_⟩
    rcases ho with rfl | rfl <;> simp [f172, hN, hst, hu, hL, runBody, exec, exOps, exDraw, exTrace, wanted, aop, Opd.ev, Opd.taken, Frame.get, st_undef, st_bool, st_int, st_str, st_nils, st_sln, st_sle, st_slm, st_ref, st_ipt, st_map, st_imap, st_agg, st_tup, rd_bool, rd_int, rd_str, rd_sln, rd_sle, rd_nils, abin, aun, cmpInt, eqOp, Frame.putO, Frame.put, Frame.keep, params, kid5, AVal.known, AVal.cells, ASt.push, loadAt, cut, mk, ASt.get, getL, results, result, ASt.trunc, underL, AVal.under, fz_int, fz_bool]

end Go.Proofs.YtdhgdpokdhjanaaGreat.Abs
