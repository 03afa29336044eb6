/- Format, Expression and Statement, of the printer and of the reference. -/
import Derived.Test.YtdhgdpokdhjanaaGreatMZ8
import Derived.Test.YtdhgdpokdhjanaaGreatRows
import Derived.Test.YtdhgdpokdhjanaaGreatMA27
import Derived.Test.YtdhgdpokdhjanaaGreatMIrT
import Derived.KernelRfl
import Derived.WalkKit
import Derived.ProofKit
set_option linter.unusedSimpArgs false
set_option linter.unusedVariables false
namespace Go.Proofs.YtdhgdpokdhjanaaGreat.Abs
open Go

/-- A text, if it is not too long. -/
def lim (s : List UInt8) : AVal := if 4096 < s.length then .tup [.str [], .int .i64 8] else .tup [.str s, .int .i64 0]
theorem lim_calls (s : List UInt8) : Call C2 232 [.str s] ⟨0, []⟩ = some (lim s, ⟨0, []⟩) ∧ Call C2 343 [.str s] ⟨0, []⟩ = some (lim s, ⟨0, []⟩) := by
  rw [run_of (af := f232) rfl rfl, v_run rfl, run_of (af := f343) rfl rfl, v_run rfl]
  unfold lim
  by_cases h : 4096 < s.length
  · have h2 : (4096 : Int) < (s.length : Int) := by omega
    rw [if_pos h]
    constructor
    · simp [f232, h2, h, fz_under, vv, Frame.put, keepF, Opd.ev, Opd.taken, aun, params, AVal.cells, AVal.known, entries, ASt.push, loadAt, mk, ASt.get, getL, results, result, ASt.trunc, underL, AVal.under, Own.under, storeAt, mayPutL, mayPut, splice, ASt.set, setL, fill, zeros, List.map_cons, List.map_nil, List.nil_append, List.append_nil, Option.map_some, Option.bind_some]
    · simp [f343, h2, h, fz_under, vv, Frame.put, keepF, Opd.ev, Opd.taken, aun, params, AVal.cells, AVal.known, entries, ASt.push, loadAt, mk, ASt.get, getL, results, result, ASt.trunc, underL, AVal.under, Own.under, storeAt, mayPutL, mayPut, splice, ASt.set, setL, fill, zeros, List.map_cons, List.map_nil, List.nil_append, List.append_nil, Option.map_some, Option.bind_some]
  · have h2 : ¬ (4096 : Int) < (s.length : Int) := by omega
    rw [if_neg h]
    constructor
    · simp [f232, h2, h, fz_under, vv, Frame.put, keepF, Opd.ev, Opd.taken, aun, params, AVal.cells, AVal.known, entries, ASt.push, loadAt, mk, ASt.get, getL, results, result, ASt.trunc, underL, AVal.under, Own.under, storeAt, mayPutL, mayPut, splice, ASt.set, setL, fill, zeros, List.map_cons, List.map_nil, List.nil_append, List.append_nil, Option.map_some, Option.bind_some]
    · simp [f343, h2, h, fz_under, vv, Frame.put, keepF, Opd.ev, Opd.taken, aun, params, AVal.cells, AVal.known, entries, ASt.push, loadAt, mk, ASt.get, getL, results, result, ASt.trunc, underL, AVal.under, Own.under, storeAt, mayPutL, mayPut, splice, ASt.set, setL, fill, zeros, List.map_cons, List.map_nil, List.nil_append, List.append_nil, Option.map_some, Option.bind_some]

section
variable {k : Int} {t : List UInt8} {p e : Int} {kv : AVal} {ks : List Nd}

/-! ### Whether the trees are of their kinds -/

theorem valid_calls (hkv : ndV kv = some ks) (hn : (Nd.mk k t ks).all.length ≤ 4096) (ht : ∀ x ∈ (Nd.mk k t ks).all, x.text.length ≤ limit) :
    Call C2 368 [.agg (kid5 k t p e kv)] ⟨0, []⟩ = some (.bool (decide (k = 2) && (Nd.mk k t ks).ok), ⟨0, []⟩) ∧ Call C2 175 [.agg (kid5 k t p e kv)] ⟨0, []⟩ = some (.bool (decide (k = 2) && (Nd.mk k t ks).ok), ⟨0, []⟩) := by
  have h1 := shaped_is (k := k) (t := t) (p := p) (e := e) hkv ht ⟨0, []⟩
  have h2 := shape_call _ k t p e kv ks hkv (Nat.le_refl _) hn ht
  have hst := ndV_strip hkv
  have hu := ndV_under _ hkv
  generalize (Nd.mk k t ks).ok = b at h1 h2 ⊢
  simp only [kid5] at h1 h2
  rw [run_of (af := f368) rfl rfl, v_run rfl, run_of (af := f175) rfl rfl, v_run rfl]
  by_cases hk : k = 2
  · subst hk
    constructor
    · simp [f368, kid5, hst, hu, h1, vv, Frame.put, keepF, Opd.ev, Opd.taken, aun, params, AVal.cells, AVal.known, entries, ASt.push, loadAt, mk, ASt.get, getL, results, result, ASt.trunc, underL, AVal.under, Own.under, storeAt, mayPutL, mayPut, splice, ASt.set, setL, fill, zeros, List.map_cons, List.map_nil, List.nil_append, List.append_nil, Option.map_some, Option.bind_some]
    · simp [f175, kid5, hst, hu, h2, vv, Frame.put, keepF, Opd.ev, Opd.taken, aun, params, AVal.cells, AVal.known, entries, ASt.push, loadAt, mk, ASt.get, getL, results, result, ASt.trunc, underL, AVal.under, Own.under, storeAt, mayPutL, mayPut, splice, ASt.set, setL, fill, zeros, List.map_cons, List.map_nil, List.nil_append, List.append_nil, Option.map_some, Option.bind_some]
  · constructor
    · simp [f368, kid5, hst, hu, hk, vv, Frame.put, keepF, Opd.ev, Opd.taken, aun, params, AVal.cells, AVal.known, entries, ASt.push, loadAt, mk, ASt.get, getL, results, result, ASt.trunc, underL, AVal.under, Own.under, storeAt, mayPutL, mayPut, splice, ASt.set, setL, fill, zeros, List.map_cons, List.map_nil, List.nil_append, List.append_nil, Option.map_some, Option.bind_some]
    · simp [f175, kid5, hst, hu, hk, vv, Frame.put, keepF, Opd.ev, Opd.taken, aun, params, AVal.cells, AVal.known, entries, ASt.push, loadAt, mk, ASt.get, getL, results, result, ASt.trunc, underL, AVal.under, Own.under, storeAt, mayPutL, mayPut, splice, ASt.set, setL, fill, zeros, List.map_cons, List.map_nil, List.nil_append, List.append_nil, Option.map_some, Option.bind_some]
theorem isE_call (k : Int) : Call C2 372 [.int .i64 k] ⟨0, []⟩ = some (.bool (decide (20 ≤ k ∧ k ≤ 29)), ⟨0, []⟩) := Call12 (kind_call (lo := 20) (hi := 29) rfl rfl rfl k ⟨0, []⟩)
theorem isS_call (k : Int) : Call C2 374 [.int .i64 k] ⟨0, []⟩ = some (.bool (decide (12 ≤ k ∧ k ≤ 19)), ⟨0, []⟩) := Call12 (kind_call (lo := 12) (hi := 19) rfl rfl rfl k ⟨0, []⟩)
theorem expr_calls (hkv : ndV kv = some ks) (hn : (Nd.mk k t ks).all.length ≤ 4096) (ht : ∀ x ∈ (Nd.mk k t ks).all, x.text.length ≤ limit) :
    Call C2 360 [.agg (kid5 k t p e kv)] ⟨0, []⟩ = some (.bool (decide (20 ≤ k ∧ k ≤ 29) && (Nd.mk k t ks).ok), ⟨0, []⟩) ∧ Call C2 161 [.agg (kid5 k t p e kv)] ⟨0, []⟩ = some (.bool (decide (20 ≤ k ∧ k ≤ 29) && (Nd.mk k t ks).ok), ⟨0, []⟩) := by
  have h1 := shaped_is (k := k) (t := t) (p := p) (e := e) hkv ht ⟨0, []⟩
  have h2 := shape_call _ k t p e kv ks hkv (Nat.le_refl _) hn ht
  have h3 := isE_call k
  have h4 := isExpr_call k
  have hst := ndV_strip hkv
  have hu := ndV_under _ hkv
  generalize (Nd.mk k t ks).ok = b at h1 h2 ⊢
  simp only [kid5] at h1 h2
  rw [run_of (af := f360) rfl rfl, v_run rfl, run_of (af := f161) rfl rfl, v_run rfl]
  generalize decide (20 ≤ k ∧ k ≤ 29) = c at h3 h4 ⊢
  cases c <;> constructor <;> simp [f360, f161, kid5, hst, hu, h1, h2, h3, h4, vv, Frame.put, keepF, Opd.ev, Opd.taken, aun, params, AVal.cells, AVal.known, entries, ASt.push, loadAt, mk, ASt.get, getL, results, result, ASt.trunc, underL, AVal.under, Own.under, storeAt, mayPutL, mayPut, splice, ASt.set, setL, fill, zeros, List.map_cons, List.map_nil, List.nil_append, List.append_nil, Option.map_some, Option.bind_some]
theorem stmt_calls (hkv : ndV kv = some ks) (hn : (Nd.mk k t ks).all.length ≤ 4096) (ht : ∀ x ∈ (Nd.mk k t ks).all, x.text.length ≤ limit) :
    Call C2 367 [.agg (kid5 k t p e kv)] ⟨0, []⟩ = some (.bool (decide (12 ≤ k ∧ k ≤ 19) && (Nd.mk k t ks).ok), ⟨0, []⟩) ∧ Call C2 173 [.agg (kid5 k t p e kv)] ⟨0, []⟩ = some (.bool (decide (12 ≤ k ∧ k ≤ 19) && (Nd.mk k t ks).ok), ⟨0, []⟩) := by
  have h1 := shaped_is (k := k) (t := t) (p := p) (e := e) hkv ht ⟨0, []⟩
  have h2 := shape_call _ k t p e kv ks hkv (Nat.le_refl _) hn ht
  have h3 := isS_call k
  have h4 := stmt2_call k
  have hst := ndV_strip hkv
  have hu := ndV_under _ hkv
  generalize (Nd.mk k t ks).ok = b at h1 h2 ⊢
  simp only [kid5] at h1 h2
  rw [run_of (af := f367) rfl rfl, v_run rfl, run_of (af := f173) rfl rfl, v_run rfl]
  generalize decide (12 ≤ k ∧ k ≤ 19) = c at h3 h4 ⊢
  cases c <;> constructor <;> simp [f367, f173, kid5, hst, hu, h1, h2, h3, h4, vv, Frame.put, keepF, Opd.ev, Opd.taken, aun, params, AVal.cells, AVal.known, entries, ASt.push, loadAt, mk, ASt.get, getL, results, result, ASt.trunc, underL, AVal.under, Own.under, storeAt, mayPutL, mayPut, splice, ASt.set, setL, fill, zeros, List.map_cons, List.map_nil, List.nil_append, List.append_nil, Option.map_some, Option.bind_some]

/-! ### Expressions -/

theorem lim_strip (s : List UInt8) : (lim s).strip = lim s ∧ ∃ a b, lim s = .tup [.str a, .int .i64 b] := by
  unfold lim
  split
  · exact ⟨rfl, _, _, rfl⟩
  · exact ⟨rfl, _, _, rfl⟩

def exprV (k : Int) (t : List UInt8) (ks : List Nd) : AVal := if (decide (20 ≤ k ∧ k ≤ 29) && (Nd.mk k t ks).ok) = true then lim (txt (.mk k t ks) 0) else .tup [.str [], .int .i64 1]
theorem expression_calls {m : Nat} (hm : m ≤ 1000) (hkv : ndV kv = some ks) (hs : (Nd.mk k t ks).small m = true) :
    Call C2 338 [.agg (kid5 k t p e kv)] ⟨0, []⟩ = some (exprV k t ks, ⟨0, []⟩) ∧ Call C2 223 [.agg (kid5 k t p e kv)] ⟨0, []⟩ = some (exprV k t ks, ⟨0, []⟩) := by
  obtain ⟨b1, b2, b3⟩ := txt_small hs hm (d := 0) (by omega)
  have hlim : limit = 2 ^ 36 := rfl
  obtain ⟨c1, c2⟩ := expr_calls (k := k) (t := t) (p := p) (e := e) hkv (by omega) (fun x hx => by have := b2 x hx; omega)
  have hst := ndV_strip hkv
  have hu := ndV_under _ hkv
  unfold exprV
  cases hb : (decide (20 ≤ k ∧ k ≤ 29) && (Nd.mk k t ks).ok)
  · rw [hb] at c1 c2
    simp only [kid5] at c1 c2
    simp only [Bool.false_eq_true, if_false]
    rw [run_of (af := f338) rfl rfl, v_run rfl, run_of (af := f223) rfl rfl, v_run rfl]
    constructor <;> simp [f338, f223, kid5, hst, hu, c1, c2, fz_under, vv, Frame.put, keepF, Opd.ev, Opd.taken, aun, params, AVal.cells, AVal.known, entries, ASt.push, loadAt, mk, ASt.get, getL, results, result, ASt.trunc, underL, AVal.under, Own.under, storeAt, mayPutL, mayPut, splice, ASt.set, setL, fill, zeros, List.map_cons, List.map_nil, List.nil_append, List.append_nil, Option.map_some, Option.bind_some]
  · rw [hb] at c1 c2
    simp only [Bool.and_eq_true, decide_eq_true_eq] at hb
    have w1 := write_is (Nd.mk k t ks).all.length k t ks 0 (Nat.le_refl _) hb.2 (by omega) (by omega) (by omega) b3 p e kv hkv
    have w2 := (ref_is (Nd.mk k t ks).all.length k t ks 0 (Nat.le_refl _) hb.2 (by omega) b3 p e kv hkv).1 (by omega)
    generalize txt (.mk k t ks) 0 = T at w1 w2 ⊢
    obtain ⟨l1, l2⟩ := lim_calls T
    obtain ⟨_, a, b, hl⟩ := lim_strip T
    rw [hl] at l1 l2 ⊢
    simp only [kid5, Int.ofNat_zero] at c1 c2 w1 w2
    simp only [if_true]
    rw [run_of (af := f338) rfl rfl, v_run rfl, run_of (af := f223) rfl rfl, v_run rfl]
    constructor <;> simp [f338, f223, kid5, hst, hu, c1, c2, w1, w2, l1, l2, fz_under, vv, Frame.put, keepF, Opd.ev, Opd.taken, aun, params, AVal.cells, AVal.known, entries, ASt.push, loadAt, mk, ASt.get, getL, results, result, ASt.trunc, underL, AVal.under, Own.under, storeAt, mayPutL, mayPut, splice, ASt.set, setL, fill, zeros, List.map_cons, List.map_nil, List.nil_append, List.append_nil, Option.map_some, Option.bind_some]

/-! ### Statements -/

def stmtV (k : Int) (t : List UInt8) (ks : List Nd) (d : Int) : AVal := if (decide (12 ≤ k ∧ k ≤ 19) && (Nd.mk k t ks).ok) = true then (if d < 0 ∨ 128 < d then .tup [.str [], .int .i64 2] else lim (txt (.mk k t ks) d.toNat)) else .tup [.str [], .int .i64 1]
theorem statement_calls {m : Nat} (hm : m ≤ 1000) (hkv : ndV kv = some ks) (hs : (Nd.mk k t ks).small m = true) (d : Int) :
    Call C2 342 [.agg (kid5 k t p e kv), .int .i64 d] ⟨0, []⟩ = some (stmtV k t ks d, ⟨0, []⟩) ∧ Call C2 227 [.agg (kid5 k t p e kv), .int .i64 d] ⟨0, []⟩ = some (stmtV k t ks d, ⟨0, []⟩) := by
  obtain ⟨b1, b2, _⟩ := txt_small hs hm (d := 0) (by omega)
  have hlim : limit = 2 ^ 36 := rfl
  obtain ⟨c1, c2⟩ := stmt_calls (k := k) (t := t) (p := p) (e := e) hkv (by omega) (fun x hx => by have := b2 x hx; omega)
  have hst := ndV_strip hkv
  have hu := ndV_under _ hkv
  unfold stmtV
  cases hb : (decide (12 ≤ k ∧ k ≤ 19) && (Nd.mk k t ks).ok)
  · rw [hb] at c1 c2
    simp only [kid5] at c1 c2
    simp only [Bool.false_eq_true, if_false]
    rw [run_of (af := f342) rfl rfl, v_run rfl, run_of (af := f227) rfl rfl, v_run rfl]
    constructor <;> simp [f342, f227, kid5, hst, hu, c1, c2, fz_under, vv, Frame.put, keepF, Opd.ev, Opd.taken, aun, params, AVal.cells, AVal.known, entries, ASt.push, loadAt, mk, ASt.get, getL, results, result, ASt.trunc, underL, AVal.under, Own.under, storeAt, mayPutL, mayPut, splice, ASt.set, setL, fill, zeros, List.map_cons, List.map_nil, List.nil_append, List.append_nil, Option.map_some, Option.bind_some]
  · rw [hb] at c1 c2
    simp only [Bool.and_eq_true, decide_eq_true_eq] at hb
    simp only [if_true]
    simp only [kid5] at c1 c2
    by_cases d1 : d < 0
    · rw [if_pos (.inl d1)]
      rw [run_of (af := f342) rfl rfl, v_run rfl, run_of (af := f227) rfl rfl, v_run rfl]
      constructor <;> simp [f342, f227, kid5, hst, hu, c1, c2, d1, fz_under, vv, Frame.put, keepF, Opd.ev, Opd.taken, aun, params, AVal.cells, AVal.known, entries, ASt.push, loadAt, mk, ASt.get, getL, results, result, ASt.trunc, underL, AVal.under, Own.under, storeAt, mayPutL, mayPut, splice, ASt.set, setL, fill, zeros, List.map_cons, List.map_nil, List.nil_append, List.append_nil, Option.map_some, Option.bind_some]
    by_cases d2 : 128 < d
    · rw [if_pos (.inr d2)]
      rw [run_of (af := f342) rfl rfl, v_run rfl, run_of (af := f227) rfl rfl, v_run rfl]
      constructor <;> simp [f342, f227, kid5, hst, hu, c1, c2, d1, d2, fz_under, vv, Frame.put, keepF, Opd.ev, Opd.taken, aun, params, AVal.cells, AVal.known, entries, ASt.push, loadAt, mk, ASt.get, getL, results, result, ASt.trunc, underL, AVal.under, Own.under, storeAt, mayPutL, mayPut, splice, ASt.set, setL, fill, zeros, List.map_cons, List.map_nil, List.nil_append, List.append_nil, Option.map_some, Option.bind_some]
    rw [if_neg (by omega)]
    obtain ⟨j, rfl⟩ := Int.eq_ofNat_of_zero_le (show 0 ≤ d by omega)
    obtain ⟨_, _, b3⟩ := txt_small hs hm (d := j) (by omega)
    have w1 := write_is (Nd.mk k t ks).all.length k t ks j (Nat.le_refl _) hb.2 (by omega) (by omega) (by omega) b3 p e kv hkv
    have w2 := (ref_is (Nd.mk k t ks).all.length k t ks j (Nat.le_refl _) hb.2 (by omega) b3 p e kv hkv).2.2 (by omega)
    rw [Int.toNat_natCast]
    generalize txt (.mk k t ks) j = T at w1 w2 ⊢
    obtain ⟨l1, l2⟩ := lim_calls T
    obtain ⟨_, a, b, hl⟩ := lim_strip T
    rw [hl] at l1 l2 ⊢
    simp only [kid5] at w1 w2
    have d3 : ¬ (j : Int) < 0 := d1
    have d4 : ¬ 128 < j := by omega
    rw [run_of (af := f342) rfl rfl, v_run rfl, run_of (af := f227) rfl rfl, v_run rfl]
    constructor <;> simp [f342, f227, kid5, hst, hu, c1, c2, d2, d3, d4, w1, w2, l1, l2, fz_under, vv, Frame.put, keepF, Opd.ev, Opd.taken, aun, params, AVal.cells, AVal.known, entries, ASt.push, loadAt, mk, ASt.get, getL, results, result, ASt.trunc, underL, AVal.under, Own.under, storeAt, mayPutL, mayPut, splice, ASt.set, setL, fill, zeros, List.map_cons, List.map_nil, List.nil_append, List.append_nil, Option.map_some, Option.bind_some]

/-! ### Programs -/

def fmLoop : ACode := match f224.code with
  | .seq _ (.seq _ (.seq _ (.seq (.seq _ (.block _ (.loop b _))) _))) => b
  | _ => .bad

theorem fm_loop {cs : List AVal} {o : Own} (hkv : ndV (.sl cs ks.length o) = some ks) {S : Nat → List UInt8} (hS : ∀ i, i < ks.length → KidR 229 ks (.sl cs ks.length o) i (S i)) :
    ∀ (r i : Nat) (x : List UInt8), i + r = ks.length → (x ++ (List.range' i r).flatMap fun i => [S i, [10]].flatten).length ≤ limit →
      Loop C2 fmLoop [1, 4, 5] [(1, .ref 0 0), (4, .str x), (5, .int .i64 i)] ⟨1, [.cells (kid5 k t p e (.sl cs ks.length o))]⟩ =
        some (.exit 0, [(1, .ref 0 0), (4, .str (x ++ (List.range' i r).flatMap fun i => [S i, [10]].flatten)), (5, .int .i64 ks.length), (13, .bool false)], ⟨1, [.cells (kid5 k t p e (.sl cs ks.length o))]⟩)
  | 0, i, x, h, hlen => by
    have : i = ks.length := by omega
    subst this
    have hst := ndV_strip hkv
    have hrd := ndV_read hkv
    rw [Loop_eq, v_stepLoop]
    simp [fmLoop, f224, kid5, hst, hrd, vv, Frame.put, keepF, Opd.ev, Opd.taken, aun, params, AVal.cells, AVal.known, entries, ASt.push, loadAt, mk, ASt.get, getL, results, result, ASt.trunc, underL, AVal.under, Own.under, storeAt, mayPutL, mayPut, splice, ASt.set, setL, fill, zeros, List.map_cons, List.map_nil, List.nil_append, List.append_nil, Option.map_some, Option.bind_some]
  | r + 1, i, x, h, hlen => by
    have hlt : i < ks.length := by omega
    have hlt2 : (i : Int) < (ks.length : Int) := by omega
    obtain ⟨cs', o', k1, t1, p1, e1, kv1, ks1, hq, ho, hu, hn, hnd1, hkv1, hcut1⟩ := nd_at hkv hlt
    cases hq
    have hc := hS i hlt _ _ _ _ _ _ _ _ rfl hnd1 hkv1 hcut1
    have hw : IntKind.wrap .i64 ((i : Int) + 1) = ((i + 1 : Nat) : Int) := by
      have hlim : limit = 2 ^ 36 := rfl
      rw [wrap_i64 (by omega) (by omega)]; rfl
    simp only [List.range'_succ, List.flatMap_cons] at hlen ⊢
    have ih := fm_loop hkv hS r (i + 1) (x ++ [S i, [10]].flatten) (by omega) (by rw [List.append_assoc]; exact hlen)
    rw [← List.append_assoc, ← ih]
    clear ih
    have h30 : kv1.under 0 = true := ndV_under _ hkv1
    have hx : x ++ [S i, [10]].flatten = x ++ S i ++ [10] := by simp
    rw [hx]
    have hl : (x ++ S i ++ [10]).length ≤ limit := by
      rw [← hx]
      simp only [List.length_append] at hlen ⊢
      omega
    simp only [List.length_append, List.length_cons, List.length_nil] at hl
    generalize S i = Y at *
    have b2 : x.length + Y.length ≤ limit := by omega
    have b3 : (x ++ Y).length + ([10] : List UInt8).length ≤ limit := by simp only [List.length_append, List.length_cons, List.length_nil]; omega
    simp only [kid5] at hc hcut1
    have hge : (0 : Int) ≤ (i : Int) := by omega
    have hlt3 : decide ((i : Int) < (ks.length : Int)) = true := by simpa using hlt2
    rw [Loop_eq, v_stepLoop]
    rcases ho with rfl | rfl <;> simp only [fmLoop, f224, kid5, hlt3, hge, hlt2, hcut1, hc, h30, hw, b2, b3, Int.toNat_natCast, vv, Frame.put, keepF, Opd.ev, Opd.taken, aun, params, AVal.cells, AVal.known, entries, ASt.push, loadAt, mk, ASt.get, getL, results, result, ASt.trunc, underL, AVal.under, Own.under, storeAt, mayPutL, mayPut, splice, ASt.set, setL, fill, zeros, List.map_cons, List.map_nil, List.nil_append, List.append_nil, Option.map_some, Option.bind_some, Nat.reduceEqDiff, if_true, if_false, reduceIte, Nat.reduceAdd, Nat.reduceSub, Nat.reduceMul, decide_true, decide_false, List.getElem?_cons_zero, List.getElem?_cons_succ, Bool.and_true, Bool.true_and, Bool.and_self, Nat.zero_add, Nat.add_zero, Int.toNat_zero, Int.toNat_one, Nat.zero_mul, Nat.one_mul, Int.le_refl, true_and, and_true, and_self, Bool.false_eq_true, false_or, or_false, Nat.sub_zero, List.drop_succ_cons, List.drop_zero, Bool.not_true, Bool.not_false, Int.reduceLE, Int.reduceLT, Int.reduceEq, Int.reduceToNat, Int.ofNat_zero]

theorem fm_nils {x : List UInt8} : Loop C2 fmLoop [1, 4, 5] [(1, .ref 0 0), (4, .str x), (5, .int .i64 0)] ⟨1, [.cells (kid5 k t p e .nils)]⟩ =
    some (.exit 0, [(1, .ref 0 0), (4, .str x), (5, .int .i64 0), (13, .bool false)], ⟨1, [.cells (kid5 k t p e .nils)]⟩) := by
  rw [Loop_eq, v_stepLoop]
  simp [fmLoop, f224, kid5, vv, Frame.put, keepF, Opd.ev, Opd.taken, aun, params, AVal.cells, AVal.known, entries, ASt.push, loadAt, mk, ASt.get, getL, results, result, ASt.trunc, underL, AVal.under, Own.under, storeAt, mayPutL, mayPut, splice, ASt.set, setL, fill, zeros, List.map_cons, List.map_nil, List.nil_append, List.append_nil, Option.map_some, Option.bind_some]

def fmtV (k : Int) (t : List UInt8) (ks : List Nd) : AVal := if (decide (k = 2) && (Nd.mk k t ks).ok) = true then lim (txt (.mk k t ks) 0) else .tup [.str [], .int .i64 1]
theorem format_calls {m : Nat} (hm : m ≤ 1000) (hkv : ndV kv = some ks) (hs : (Nd.mk k t ks).small m = true) :
    Call C2 339 [.agg (kid5 k t p e kv)] ⟨0, []⟩ = some (fmtV k t ks, ⟨0, []⟩) ∧ Call C2 224 [.agg (kid5 k t p e kv)] ⟨0, []⟩ = some (fmtV k t ks, ⟨0, []⟩) := by
  obtain ⟨b1, b2, b3⟩ := txt_small hs hm (d := 0) (by omega)
  have hlim : limit = 2 ^ 36 := rfl
  obtain ⟨c1, c2⟩ := valid_calls (k := k) (t := t) (p := p) (e := e) hkv (by omega) (fun x hx => by have := b2 x hx; omega)
  have hst := ndV_strip hkv
  have hu := ndV_under _ hkv
  unfold fmtV
  cases hb : (decide (k = 2) && (Nd.mk k t ks).ok)
  · rw [hb] at c1 c2
    simp only [kid5] at c1 c2
    simp only [Bool.false_eq_true, if_false]
    rw [run_of (af := f339) rfl rfl, v_run rfl, run_of (af := f224) rfl rfl, v_run rfl]
    constructor <;> simp [f339, f224, kid5, hst, hu, c1, c2, fz_under, vv, Frame.put, keepF, Opd.ev, Opd.taken, aun, params, AVal.cells, AVal.known, entries, ASt.push, loadAt, mk, ASt.get, getL, results, result, ASt.trunc, underL, AVal.under, Own.under, storeAt, mayPutL, mayPut, splice, ASt.set, setL, fill, zeros, List.map_cons, List.map_nil, List.nil_append, List.append_nil, Option.map_some, Option.bind_some]
  · rw [hb] at c1 c2
    simp only [Bool.and_eq_true, decide_eq_true_eq] at hb
    obtain ⟨hk, hok⟩ := hb
    subst hk
    have w1 := write_is (Nd.mk 2 t ks).all.length 2 t ks 0 (Nat.le_refl _) hok (by omega) (by omega) (by omega) b3 p e kv hkv
    have e1 : txt (.mk 2 t ks) 0 = (List.range' 0 ks.length).flatMap fun i => [txt (ks.getD i nd0) 0, [10]].flatten := by
      show form 2 t 0 ks (txtL ks 0) = _
      show (txtL ks 0).flatMap (· ++ [10]) = _
      rw [flatMap_range]
      simp
    have hS : ∀ i, i < ks.length → KidR 229 ks kv i (txt (ks.getD i nd0) 0) := by
      intro i hi cs o k2 t2 p2 e2 kv2 ks2 _ hnd hkv2 _
      have g := kp_one2 (list_kinds (q := .one [3, 5]) hok (fun _ => rfl) i hi)
      have h1 := ok_sub hok hi
      have h2 := kids_len (getD_mem (ks := ks) hi)
      have h3 : (txt (ks.getD i nd0) 0).length ≤ limit := by
        rw [e1] at b3
        have hm := flatMap_len (g := fun i => [txt (ks.getD i nd0) 0, [10]].flatten) (List.mem_range'_1.2 (⟨Nat.zero_le i, by omega⟩ : 0 ≤ i ∧ i < 0 + ks.length))
        simp only [List.flatten_cons, List.length_append] at hm b3
        omega
      rw [hnd] at g h1 h2 h3 ⊢
      have g : k2 = 3 ∨ k2 = 5 := g
      simp only [Nd.all, List.length_cons] at h2 b1
      have H := ref_is (allL ks2).length
      rcases g with rfl | rfl
      · exact rr_3 H hkv2 (Nat.le_refl _) (by omega) h1 h3
      · exact rr_5 H hkv2 (Nat.le_refl _) (by omega) h1 h3
    rw [e1] at w1 b3 ⊢
    obtain ⟨l1, l2⟩ := lim_calls ((List.range' 0 ks.length).flatMap fun i => [txt (ks.getD i nd0) 0, [10]].flatten)
    obtain ⟨_, a, b, hl⟩ := lim_strip ((List.range' 0 ks.length).flatMap fun i => [txt (ks.getD i nd0) 0, [10]].flatten)
    rw [hl] at l1 l2 ⊢
    simp only [if_true]
    simp only [kid5] at c1 c2 w1
    simp only [Int.ofNat_zero] at w1
    constructor
    · generalize ((List.range' 0 ks.length).flatMap fun i => [txt (ks.getD i nd0) 0, [10]].flatten) = Y at w1 l2
      rw [run_of (af := f339) rfl rfl, v_run rfl]
      simp [f339, kid5, hst, hu, c1, w1, l2, fz_under, vv, Frame.put, keepF, Opd.ev, Opd.taken, aun, params, AVal.cells, AVal.known, entries, ASt.push, loadAt, mk, ASt.get, getL, results, result, ASt.trunc, underL, AVal.under, Own.under, storeAt, mayPutL, mayPut, splice, ASt.set, setL, fill, zeros, List.map_cons, List.map_nil, List.nil_append, List.append_nil, Option.map_some, Option.bind_some]
    · rw [run_of (af := f224) rfl rfl, v_run rfl]
      rcases ndV_cases hkv with ⟨rfl, rfl⟩ | ⟨cs, n, o, rfl, ho, hcl, hn, hL⟩
      · have hL := fm_nils (k := 2) (t := t) (p := p) (e := e) (x := [])
        simp only [List.length_nil, List.range'_zero, List.flatMap_nil] at l1 ⊢
        simp only [fmLoop, f224, kid5] at hL
        simp [f224, kid5, hst, hu, c2, hL, l1, fz_under, vv, Frame.put, keepF, Opd.ev, Opd.taken, aun, params, AVal.cells, AVal.known, entries, ASt.push, loadAt, mk, ASt.get, getL, results, result, ASt.trunc, underL, AVal.under, Own.under, storeAt, mayPutL, mayPut, splice, ASt.set, setL, fill, zeros, List.map_cons, List.map_nil, List.nil_append, List.append_nil, Option.map_some, Option.bind_some]
      · have hn2 : n = ks.length := by have := ndL_length hL; omega
        subst hn2
        have hL2 := fm_loop (k := 2) (t := t) (p := p) (e := e) hkv hS ks.length 0 [] (by omega) (by simpa using b3)
        rw [List.nil_append] at hL2
        generalize ((List.range' 0 ks.length).flatMap fun i => [txt (ks.getD i nd0) 0, [10]].flatten) = Y at *
        simp only [fmLoop, f224, kid5, Int.ofNat_zero] at hL2
        rcases ho with rfl | rfl <;> simp [f224, kid5, ndL_under _ hL, c2, hL2, l1, fz_under, vv, Frame.put, keepF, Opd.ev, Opd.taken, aun, params, AVal.cells, AVal.known, entries, ASt.push, loadAt, mk, ASt.get, getL, results, result, ASt.trunc, underL, AVal.under, Own.under, storeAt, mayPutL, mayPut, splice, ASt.set, setL, fill, zeros, List.map_cons, List.map_nil, List.nil_append, List.append_nil, Option.map_some, Option.bind_some]
end
end Go.Proofs.YtdhgdpokdhjanaaGreat.Abs
/- The law PrinterTexts in the abstract machine. -/
namespace Go.Proofs.YtdhgdpokdhjanaaGreat.Abs
open Go

theorem exprV_tup (k : Int) (t : List UInt8) (ks : List Nd) : ∃ a b, exprV k t ks = .tup [.str a, .int .i64 b] := by
  unfold exprV
  split
  · exact (lim_strip _).2
  · exact ⟨_, _, rfl⟩
theorem stmtV_tup (k : Int) (t : List UInt8) (ks : List Nd) (d : Int) : ∃ a b, stmtV k t ks d = .tup [.str a, .int .i64 b] := by
  unfold stmtV
  split
  · split
    · exact ⟨_, _, rfl⟩
    · exact (lim_strip _).2
  · exact ⟨_, _, rfl⟩
theorem fmtV_tup (k : Int) (t : List UInt8) (ks : List Nd) : ∃ a b, fmtV k t ks = .tup [.str a, .int .i64 b] := by
  unfold fmtV
  split
  · exact (lim_strip _).2
  · exact ⟨_, _, rfl⟩

section
variable {k : Int} {t : List UInt8} {p e : Int} {kv : AVal}

/-- What is small is read as a tree; whether it is small. -/
theorem small_nd {y : List (List AVal)} (h : preV kv = some y) (hl : y.length + 1 ≤ limit) (m : Int) : ∃ ks, ndV kv = some ks ∧ Call C2 172 [.agg (kid5 k t p e kv), .int .i64 m] ⟨0, []⟩ = some (.bool (Nd.small (.mk k t ks) m), ⟨0, []⟩) := by
  obtain ⟨ks, h1, h2⟩ := preV_nd h
  exact ⟨ks, h1, small_is h h2 hl k t p e m⟩

theorem law_texts {y : List (List AVal)} (h : preV kv = some y) (hl : y.length + 1 ≤ limit) (d : Int) :
    Call C2 120 [.agg (kid5 k t p e kv), .int .i64 d] ⟨0, []⟩ = some (.bool true, ⟨0, []⟩) := by
  obtain ⟨ks, hkv, hs⟩ := small_nd (k := k) (t := t) (p := p) (e := e) h hl 150
  have hst := ndV_strip hkv
  have hu := ndV_under _ hkv
  have aw := awake
  rw [run_of (af := f120) rfl rfl, v_run rfl]
  cases hb : Nd.small (.mk k t ks) 150
  · rw [hb] at hs
    simp only [kid5] at hs
    simp [f120, kid5, hst, hu, hs, aw, vv, Frame.put, keepF, Opd.ev, Opd.taken, aun, params, AVal.cells, AVal.known, entries, ASt.push, loadAt, mk, ASt.get, getL, results, result, ASt.trunc, underL, AVal.under, Own.under, storeAt, mayPutL, mayPut, splice, ASt.set, setL, fill, zeros, List.map_cons, List.map_nil, List.nil_append, List.append_nil, Option.map_some, Option.bind_some]
  rw [hb] at hs
  simp only [kid5] at hs
  obtain ⟨f1, f2⟩ := format_calls (m := 150) (p := p) (e := e) (by omega) hkv hb
  obtain ⟨x1, x2⟩ := expression_calls (m := 150) (p := p) (e := e) (by omega) hkv hb
  obtain ⟨s1, s2⟩ := statement_calls (m := 150) (p := p) (e := e) (by omega) hkv hb d
  obtain ⟨a1, b1, hf⟩ := fmtV_tup k t ks
  obtain ⟨a2, b2, hx⟩ := exprV_tup k t ks
  obtain ⟨a3, b3, hs3⟩ := stmtV_tup k t ks d
  rw [hf] at f1 f2
  rw [hx] at x1 x2
  rw [hs3] at s1 s2
  simp only [kid5] at f1 f2 x1 x2 s1 s2
  by_cases d1 : 20 < d
  · by_cases d2 : d ≤ 128
    · simp [f120, kid5, hst, hu, hs, aw, d1, d2, vv, Frame.put, keepF, Opd.ev, Opd.taken, aun, params, AVal.cells, AVal.known, entries, ASt.push, loadAt, mk, ASt.get, getL, results, result, ASt.trunc, underL, AVal.under, Own.under, storeAt, mayPutL, mayPut, splice, ASt.set, setL, fill, zeros, List.map_cons, List.map_nil, List.nil_append, List.append_nil, Option.map_some, Option.bind_some]
    · simp [f120, kid5, hst, hu, hs, aw, d1, d2, f1, f2, x1, x2, s1, s2, vv, Frame.put, keepF, Opd.ev, Opd.taken, aun, params, AVal.cells, AVal.known, entries, ASt.push, loadAt, mk, ASt.get, getL, results, result, ASt.trunc, underL, AVal.under, Own.under, storeAt, mayPutL, mayPut, splice, ASt.set, setL, fill, zeros, List.map_cons, List.map_nil, List.nil_append, List.append_nil, Option.map_some, Option.bind_some]
  · simp [f120, kid5, hst, hu, hs, aw, d1, f1, f2, x1, x2, s1, s2, vv, Frame.put, keepF, Opd.ev, Opd.taken, aun, params, AVal.cells, AVal.known, entries, ASt.push, loadAt, mk, ASt.get, getL, results, result, ASt.trunc, underL, AVal.under, Own.under, storeAt, mayPutL, mayPut, splice, ASt.set, setL, fill, zeros, List.map_cons, List.map_nil, List.nil_append, List.append_nil, Option.map_some, Option.bind_some]
end
end Go.Proofs.YtdhgdpokdhjanaaGreat.Abs
/- What comes in as a node is a tree. -/
namespace Go.Proofs.YtdhgdpokdhjanaaGreat.rows
open Go.ChangeShapes Go.WideShapes Go.ChangeAt Go.RowKit
open Go Abs

theorem own : ownKnob Tryz.prog.godebug = none := by kernel_rfl
def S : List Nat := [3, 9, 24, 22]
theorem plain : ∀ t ∈ S, plainAt Tryz.prog S t = true := by
  have h : S.all (plainAt Tryz.prog S) = true := by kernel_rfl
  exact fun t ht => List.all_eq_true.1 h t ht

/-! ### What comes in is a tree of nodes -/

theorem bulk_append {H : Type} : ∀ a b : List (DataW H), Rows.uptoBulkAll (a ++ b) = Rows.uptoBulkAll a + Rows.uptoBulkAll b
  | [], b => by simp [Rows.uptoBulkAll]
  | d :: a, b => by simp [Rows.uptoBulkAll, bulk_append a b]; omega

/-- A reading that is a node. -/
def IsNode {H : Type} (d : DataW H) : Prop := ∃ k t p e kv y, dcells d = kid5 k t p e kv ∧ preV kv = some y ∧ y.length + 1 ≤ Rows.uptoBulk d

theorem nodes_cells {H : Type} : ∀ {l : List (DataW H)}, (∀ d ∈ l, IsNode d) → ∃ z, preL (dcellsL l) = some z ∧ z.length ≤ Rows.uptoBulkAll l ∧ (dcellsL l).length = 5 * l.length
  | [], _ => ⟨[], rfl, by simp, rfl⟩
  | d :: l, h => by
    obtain ⟨k, t, p, e, kv, y, h1, h2, h3⟩ := h d (by simp)
    obtain ⟨z, q1, q2, q3⟩ := nodes_cells (l := l) (fun d hd => h d (by simp [hd]))
    refine ⟨kid5 k t p e kv :: (y ++ z), ?_, ?_, ?_⟩
    · simp only [dcellsL, h1, kid5, List.cons_append, List.nil_append, preL, h2, q1, Option.bind_some, Option.map_some]
    · simp only [List.length_cons, List.length_append, Rows.uptoBulkAll]
      omega
    · simp only [dcellsL, h1, List.length_append, List.length_cons, q3, kid5, List.length_nil]
      omega

theorem trod_node {H : Type} {enc : TypeId × Value → H} {W : World} {sp : Nat → Bool} {held : Bool} : ∀ (fuel : Nat) (cs : List Value) (x : DataW H × List MemPlace), DataW.trod enc Tryz.prog W 0 sp held fuel 24 cs = some x → Rows.uptoBulk x.1 ≤ limit → IsNode x.1 := by
  intro fuel
  induction fuel using Nat.strongRecOn with
  | _ fuel ih =>
    intro cs x h hb
    obtain ⟨xs, n, rfl, rfl, hcl, hxl, hall⟩ := DataW.trod_struct Tryz.underlying24 h
    have a0 := hall 0 _ rfl
    have a1 := hall 1 _ rfl
    have a2 := hall 2 _ rfl
    have a3 := hall 3 _ rfl
    have a4 := hall 4 _ rfl
    have hxl : xs.length = 5 := hxl
    match xs, hxl with
    | [x0, x1, x2, x3, x4], _ =>
      simp only [List.getElem?_cons_zero, List.getElem?_cons_succ] at a0 a1 a2 a3 a4
      obtain ⟨k, e0, rfl, _⟩ := DataW.trod_int Tryz.underlying3 a0
      obtain ⟨t, e1, rfl, _⟩ := DataW.trod_string Tryz.underlying9 a1
      obtain ⟨p, e2, rfl, _⟩ := DataW.trod_int Tryz.underlying3 a2
      obtain ⟨e, e3, rfl, _⟩ := DataW.trod_int Tryz.underlying3 a3
      simp only [List.map_cons, List.map_nil, Rows.uptoBulk, Rows.uptoBulkAll] at hb ⊢
      rcases DataW.trod_slice Tryz.underlying22 a4 with ⟨_, rfl⟩ | ⟨a, len, cap, elems, rest, m, rfl, _, rfl, _, hle, _, hlen, hel, _⟩
      · exact ⟨k, t.data.toList, p, e, .nils, [], by simp [dcells, dcellsL, kid5], rfl, by simp [Rows.uptoBulk, Rows.uptoBulkAll]⟩
      · simp only [Rows.uptoBulk] at hb
        have hbulk : ∀ d ∈ elems.map (·.1), Rows.uptoBulk d ≤ Rows.uptoBulkAll (elems.map (·.1)) := by
          intro d hd
          obtain ⟨l1, l2, e⟩ := List.append_of_mem hd
          rw [e, bulk_append]
          simp only [Rows.uptoBulkAll]
          omega
        have hnodes : ∀ d ∈ elems.map (·.1), IsNode d := by
          intro d hd
          have hbd := hbulk d hd
          obtain ⟨y, hy, rfl⟩ := List.mem_map.1 hd
          obtain ⟨i, hi⟩ := List.mem_iff_getElem?.1 hy
          have hlt : i < len := by rw [← hlen]; exact (List.getElem?_eq_some_iff.1 hi).1
          have h1 := hel i hlt
          rw [hi] at h1
          obtain ⟨l, _, htr⟩ := bind_some' h1
          exact ih m (by omega) l y htr (by omega)
        obtain ⟨z, q1, q2, q3⟩ := nodes_cells hnodes
        rw [List.length_map] at q3
        refine ⟨k, t.data.toList, p, e, .sl (dcellsL (elems.map (·.1))) (elems.map (·.1)).length .none, z, by simp [dcells, dcellsL, kid5], ?_, ?_⟩
        · rw [List.length_map]
          have hn : elems.length ≤ limit := by
            have hone : ∀ l : List (DataW H), l.length ≤ Rows.uptoBulkAll l := by
              intro l
              induction l with
              | nil => simp
              | cons d l ih =>
                have : 1 ≤ Rows.uptoBulk d := by
                  cases d with
                  | lit x => cases x <;> first | exact Nat.le_refl 1 | exact Nat.succ_le_succ (Nat.zero_le _) | (simp [Rows.uptoBulk]; done)
                  | _ => simp only [Rows.uptoBulk]; omega
                simp only [Rows.uptoBulkAll, List.length_cons]
                omega
            have := hone (elems.map (·.1))
            rw [List.length_map] at this
            omega
          unfold preV
          rw [if_pos ⟨q3, hn⟩]
          exact q1
        · simp only [Rows.uptoBulk, Rows.uptoBulkAll]
          omega

theorem trod_isNode {H : Type} {enc : TypeId × Value → H} {W : World} {sp : Nat → Bool} {held : Bool} {v : Value} {d : DataW H} {p : List MemPlace} (h : DataW.Trod enc Tryz.prog W 0 sp held 24 v d p) (hb : Rows.uptoBulk d ≤ limit) : IsNode d := by
  obtain ⟨fuel, h⟩ := h
  exact trod_node fuel _ (d, p) h hb


def node0 : Value := .agg #[.int .i64 0, .string ⟨#[]⟩, .int .i64 0, .int .i64 0, .slice none 0 0]
def data0 {H : Type} : DataW H := .agg [.lit (.int .i64 0), .lit (.string []), .lit (.int .i64 0), .lit (.int .i64 0), .nil]
end Go.Proofs.YtdhgdpokdhjanaaGreat.rows
