/- fits: whether a node has a shape. -/
import Derived.Test.YtdhgdpokdhjanaaGreatMY5
set_option linter.unusedSimpArgs false
set_option linter.unusedVariables false
namespace Go.Proofs.YtdhgdpokdhjanaaGreat.Abs
open Go

theorem ndL_length : ∀ {ks : List Nd} {cs : List AVal}, ndL cs = some ks → cs.length = 5 * ks.length
  | ks, cs, h => by
    rcases ndL_cons h with ⟨rfl, rfl⟩ | ⟨k1, t1, p1, e1, kv1, r1, ks1, zs, rfl, h2, h3, rfl⟩
    · rfl
    · have := ndL_length h3
      simp only [kid5, List.cons_append, List.nil_append, List.length_cons, this]
      omega
theorem ndL_drop : ∀ {ks : List Nd} {cs : List AVal}, ndL cs = some ks → ∀ i, i ≤ ks.length → ndL (cs.drop (5 * i)) = some (ks.drop i)
  | ks, cs, h, 0, _ => by simpa using h
  | ks, cs, h, i + 1, hi => by
    rcases ndL_cons h with ⟨rfl, rfl⟩ | ⟨k1, t1, p1, e1, kv1, r1, ks1, zs, rfl, h2, h3, rfl⟩
    · simp at hi
    · have := ndL_drop h3 i (by simpa using hi)
      rw [show 5 * (i + 1) = 5 + 5 * i from by omega, ← List.drop_drop]
      exact this
theorem ndL_get {ks : List Nd} {cs : List AVal} (h : ndL cs = some ks) {i : Nat} {n : Nd} {r : List Nd} (hd : ks.drop i = n :: r) :
    i < ks.length ∧ ∃ k t p e kv zs, n = .mk k t zs ∧ ndV kv = some zs ∧ cut cs (i * 5) 5 = some (kid5 k t p e kv) := by
  have hlt : i < ks.length := by
    have := congrArg List.length hd
    simp only [List.length_drop, List.length_cons] at this
    omega
  refine ⟨hlt, ?_⟩
  have h1 := ndL_drop h i (by omega)
  have hlen := ndL_length h
  rw [hd] at h1
  rcases ndL_cons h1 with ⟨_, h2⟩ | ⟨k1, t1, p1, e1, kv1, r1, ks1, zs, h2, h3, h4, h5⟩
  · cases h2
  · cases h5
    refine ⟨k1, t1, p1, e1, kv1, ks1, rfl, h3, ?_⟩
    unfold cut
    rw [if_pos (by omega), Nat.mul_comm i 5, h2]
    rfl

def fitLoop : ACode := match f371.code with
  | .seq _ (.seq _ (.seq (.seq _ (.block _ (.loop b _))) _)) => b
  | _ => .bad

theorem cut_map {α : Type} (f : α → AVal) {l : List α} {i : Nat} {x : α} {r : List α} (h : l.drop i = x :: r) : cut (l.map f) i 1 = some [f x] := cut_get (by
  have : (l.drop i)[0]? = some x := by rw [h]; rfl
  rw [List.getElem?_drop] at this
  rw [List.getElem?_map]
  simp only [Nat.add_zero] at this
  rw [this]
  rfl)

section
variable {a b c : AObj} {x : List AVal} {txv : AVal} {m : Int}

def fitS (a b c : AObj) (x sv : List AVal) : ASt := ⟨5, [.cells x, .cells sv, a, b, c]⟩

theorem fit_list {p : KP} (hp : p.small = true) {kidsv : AVal} {cs : List AVal} {ks : List Nd} {o : Own} (ho : o = .none ∨ o = .exact) (hks : ndL cs = some ks) (hn : ks.length ≤ limit) : ∀ (r : List Nd) (i : Nat), ks.drop i = r → i ≤ ks.length →
    if (r.map Nd.kind).all p.test = true then Loop C1 fitLoop [2, 42, 43, 44] [(2, .ref 3 0), (42, .sl cs ks.length o), (43, .int .i64 ks.length), (44, .int .i64 i)] (fitS a b c x [txv, kidsv, p.val, .int .i64 m]) =
      some (.exit 0, [(2, .ref 3 0), (42, .sl cs ks.length o), (43, .int .i64 ks.length), (44, .int .i64 ks.length), (45, .bool false)], fitS a b c x [txv, kidsv, p.val, .int .i64 m])
    else ∃ y, Loop C1 fitLoop [2, 42, 43, 44] [(2, .ref 3 0), (42, .sl cs ks.length o), (43, .int .i64 ks.length), (44, .int .i64 i)] (fitS a b c x [txv, kidsv, p.val, .int .i64 m]) =
      some (.ret, [(4, .bool false)], ⟨6, [y, .cells x, .cells [txv, kidsv, p.val, .int .i64 m], a, b, c]⟩)
  | [], i, h, hi => by
    have : i = ks.length := by
      have := congrArg List.length h
      simp only [List.length_drop, List.length_nil] at this
      omega
    subst this
    simp only [List.map_nil, List.all_nil, if_true]
    rw [Loop_eq]
    rcases ho with rfl | rfl <;> simp [stepLoop, fitLoop, f371, fitS, ss, runBody, exec, exOps, exDraw_nil, wanted, aop, Opd.ev, Opd.taken, Frame.get, abin, aun, cmpInt, eqOp, Frame.putO, Frame.put, Frame.keep, params, kid5, AVal.known, AVal.cells, ASt.push, loadAt, mk, ASt.get, getL, results, result, ASt.trunc, underL, AVal.under, Own.under, storeAt, mayPutL, mayPut, splice, one_int, one_str, ASt.set, setL, keepF, fz_under, fill, zeros, rd_fn, rd_nilf, st_nilf, st_fn]
  | n :: r, i, h, hi => by
    obtain ⟨hlt, k, t, pp, e, kv, zs, rfl, hz, hcut⟩ := ndL_get hks h
    have h1 := ndV_one hz
    have h2 := ndV_strip hz
    have h3 : kv.under 6 = true := under_mono (Nat.zero_le _) (ndV_under _ hz)
    have h4 : underL 5 cs = true := underL_mono (Nat.zero_le _) (ndL_under _ hks)
    have hw : IntKind.wrap .i64 ((i : Int) + 1) = ((i + 1 : Nat) : Int) := by
      rw [wrap_i64 (by omega) (by unfold limit at hn; omega)]; rfl
    obtain ⟨fi, cap, hv, hc⟩ := KP.call p hp
    have ih := fit_list hp (kidsv := kidsv) ho hks hn r (i + 1) (by rw [← List.drop_drop, h]; rfl) (by omega)
    have hc := hc k ⟨6, [.cells (kid5 k t pp e kv), .cells x, .cells [txv, kidsv, p.val, .int .i64 m], a, b, c]⟩
    simp only [hv] at ih hc ⊢
    cases ht : p.test k
    · rw [ht] at hc
      rw [if_neg (by simp [Nd.kind, ht])]
      refine ⟨.cells (kid5 k t pp e kv), ?_⟩
      rw [Loop_eq]
      simp only [kid5] at hcut hc
      rcases ho with rfl | rfl <;> simp [stepLoop, fitLoop, f371, fitS, hlt, hcut, h1, h2, h3, h4, hc, st_fn, ss, runBody, exec, exOps, exDraw_nil, wanted, aop, Opd.ev, Opd.taken, Frame.get, abin, aun, cmpInt, eqOp, Frame.putO, Frame.put, Frame.keep, params, kid5, AVal.known, AVal.cells, ASt.push, loadAt, mk, ASt.get, getL, results, result, ASt.trunc, underL, AVal.under, Own.under, storeAt, mayPutL, mayPut, splice, one_int, one_str, ASt.set, setL, keepF, fz_under, fill, zeros, rd_fn, rd_nilf, st_nilf, st_fn]
    · rw [ht] at hc
      have hall : ((Nd.mk k t zs :: r).map Nd.kind).all p.test = (r.map Nd.kind).all p.test := by simp [Nd.kind, ht]
      rw [hall]
      simp only [kid5] at hcut hc
      split at ih
      · rename_i hr
        rw [if_pos hr, ← ih]
        conv => lhs; rw [Loop_eq]
        rcases ho with rfl | rfl <;> simp [stepLoop, fitLoop, f371, fitS, hlt, hcut, h1, h2, h3, h4, hc, st_fn, hw, ss, runBody, exec, exOps, exDraw_nil, wanted, aop, Opd.ev, Opd.taken, Frame.get, abin, aun, cmpInt, eqOp, Frame.putO, Frame.put, Frame.keep, params, kid5, AVal.known, AVal.cells, ASt.push, loadAt, mk, ASt.get, getL, results, result, ASt.trunc, underL, AVal.under, Own.under, storeAt, mayPutL, mayPut, splice, one_int, one_str, ASt.set, setL, keepF, fz_under, fill, zeros, rd_fn, rd_nilf, st_nilf, st_fn]
      · rename_i hr
        rw [if_neg hr]
        obtain ⟨y, ih⟩ := ih
        refine ⟨y, ?_⟩
        rw [← ih]
        conv => lhs; rw [Loop_eq]
        rcases ho with rfl | rfl <;> simp [stepLoop, fitLoop, f371, fitS, hlt, hcut, h1, h2, h3, h4, hc, st_fn, hw, ss, runBody, exec, exOps, exDraw_nil, wanted, aop, Opd.ev, Opd.taken, Frame.get, abin, aun, cmpInt, eqOp, Frame.putO, Frame.put, Frame.keep, params, kid5, AVal.known, AVal.cells, ASt.push, loadAt, mk, ASt.get, getL, results, result, ASt.trunc, underL, AVal.under, Own.under, storeAt, mayPutL, mayPut, splice, one_int, one_str, ASt.set, setL, keepF, fz_under, fill, zeros, rd_fn, rd_nilf, st_nilf, st_fn]

theorem fit_fix {l : List KP} (hp : ∀ p ∈ l, p.small = true) {cs : List AVal} {ks : List Nd} {o : Own} (ho : o = .none ∨ o = .exact) (hks : ndL cs = some ks) (hn : ks.length ≤ limit) (hl : l.length = ks.length) : ∀ (r : List Nd) (q : List KP) (i : Nat), ks.drop i = r → l.drop i = q → i ≤ ks.length →
    if tests q (r.map Nd.kind) = true then Loop C1 fitLoop [2, 42, 43, 44] [(2, .ref 3 0), (42, .sl cs ks.length o), (43, .int .i64 ks.length), (44, .int .i64 i)] (fitS a b c x [txv, .sl (l.map KP.val) l.length .exact, .nilf, .int .i64 m]) =
      some (.exit 0, [(2, .ref 3 0), (42, .sl cs ks.length o), (43, .int .i64 ks.length), (44, .int .i64 ks.length), (45, .bool false)], fitS a b c x [txv, .sl (l.map KP.val) l.length .exact, .nilf, .int .i64 m])
    else ∃ y, Loop C1 fitLoop [2, 42, 43, 44] [(2, .ref 3 0), (42, .sl cs ks.length o), (43, .int .i64 ks.length), (44, .int .i64 i)] (fitS a b c x [txv, .sl (l.map KP.val) l.length .exact, .nilf, .int .i64 m]) =
      some (.ret, [(4, .bool false)], ⟨6, [y, .cells x, .cells [txv, .sl (l.map KP.val) l.length .exact, .nilf, .int .i64 m], a, b, c]⟩)
  | [], q, i, h, hq, hi => by
    have : i = ks.length := by
      have := congrArg List.length h
      simp only [List.length_drop, List.length_nil] at this
      omega
    subst this
    have htests : tests q (([] : List Nd).map Nd.kind) = true := by cases q <;> rfl
    rw [if_pos htests]
    generalize l.map KP.val = lv
    generalize l.length = ln
    rw [Loop_eq]
    rcases ho with rfl | rfl <;> simp [stepLoop, fitLoop, f371, fitS, ss, runBody, exec, exOps, exDraw_nil, wanted, aop, Opd.ev, Opd.taken, Frame.get, abin, aun, cmpInt, eqOp, Frame.putO, Frame.put, Frame.keep, params, kid5, AVal.known, AVal.cells, ASt.push, loadAt, mk, ASt.get, getL, results, result, ASt.trunc, underL, AVal.under, Own.under, storeAt, mayPutL, mayPut, splice, one_int, one_str, ASt.set, setL, keepF, fz_under, fill, zeros, rd_fn, rd_nilf, st_nilf, st_fn]
  | n :: r, [], i, h, hq, hi => by
    have h1 := congrArg List.length h
    have h2 := congrArg List.length hq
    simp only [List.length_drop, List.length_nil, List.length_cons] at h1 h2
    omega
  | n :: r, p :: q, i, h, hq, hi => by
    obtain ⟨hlt, k, t, pp, e, kv, zs, rfl, hz, hcut⟩ := ndL_get hks h
    have h1 := ndV_one hz
    have h2 := ndV_strip hz
    have h3 : kv.under 6 = true := under_mono (Nat.zero_le _) (ndV_under _ hz)
    have h4 : underL 5 cs = true := underL_mono (Nat.zero_le _) (ndL_under _ hks)
    have hw : IntKind.wrap .i64 ((i : Int) + 1) = ((i + 1 : Nat) : Int) := by
      rw [wrap_i64 (by omega) (by unfold limit at hn; omega)]; rfl
    have hcut2 := cut_map KP.val hq
    obtain ⟨fi, cap, hv, hc⟩ := KP.call p (hp p (List.mem_of_mem_drop (by rw [hq]; simp)))
    have ih := fit_fix hp ho hks hn hl r q (i + 1) (by rw [← List.drop_drop, h]; rfl) (by rw [← List.drop_drop, hq]; rfl) (by omega)
    rw [hv] at hcut2
    have hc := hc k ⟨6, [.cells (kid5 k t pp e kv), .cells x, .cells [txv, .sl (l.map KP.val) l.length .exact, .nilf, .int .i64 m], a, b, c]⟩
    generalize l.map KP.val = lv at hcut2 ih hc ⊢
    have hlt2 : i < l.length := by omega
    generalize l.length = ln at hlt2 ih hc ⊢
    cases ht : p.test k
    · rw [ht] at hc
      rw [if_neg (by simp [tests, Nd.kind, ht])]
      refine ⟨.cells (kid5 k t pp e kv), ?_⟩
      rw [Loop_eq]
      simp only [kid5] at hcut hc
      rcases ho with rfl | rfl <;> simp [stepLoop, fitLoop, f371, fitS, hlt, hlt2, hcut, hcut2, h1, h2, h3, h4, hc, st_fn, ss, runBody, exec, exOps, exDraw_nil, wanted, aop, Opd.ev, Opd.taken, Frame.get, abin, aun, cmpInt, eqOp, Frame.putO, Frame.put, Frame.keep, params, kid5, AVal.known, AVal.cells, ASt.push, loadAt, mk, ASt.get, getL, results, result, ASt.trunc, underL, AVal.under, Own.under, storeAt, mayPutL, mayPut, splice, one_int, one_str, ASt.set, setL, keepF, fz_under, fill, zeros, rd_fn, rd_nilf, st_nilf, st_fn]
    · rw [ht] at hc
      have hall : tests (p :: q) ((Nd.mk k t zs :: r).map Nd.kind) = tests q (r.map Nd.kind) := by simp [tests, Nd.kind, ht]
      rw [hall]
      simp only [kid5] at hcut hc
      split at ih
      · rename_i hr
        rw [if_pos hr, ← ih]
        conv => lhs; rw [Loop_eq]
        rcases ho with rfl | rfl <;> simp [stepLoop, fitLoop, f371, fitS, hlt, hlt2, hcut, hcut2, h1, h2, h3, h4, hc, st_fn, hw, ss, runBody, exec, exOps, exDraw_nil, wanted, aop, Opd.ev, Opd.taken, Frame.get, abin, aun, cmpInt, eqOp, Frame.putO, Frame.put, Frame.keep, params, kid5, AVal.known, AVal.cells, ASt.push, loadAt, mk, ASt.get, getL, results, result, ASt.trunc, underL, AVal.under, Own.under, storeAt, mayPutL, mayPut, splice, one_int, one_str, ASt.set, setL, keepF, fz_under, fill, zeros, rd_fn, rd_nilf, st_nilf, st_fn]
      · rename_i hr
        rw [if_neg hr]
        obtain ⟨y, ih⟩ := ih
        refine ⟨y, ?_⟩
        rw [← ih]
        conv => lhs; rw [Loop_eq]
        rcases ho with rfl | rfl <;> simp [stepLoop, fitLoop, f371, fitS, hlt, hlt2, hcut, hcut2, h1, h2, h3, h4, hc, st_fn, hw, ss, runBody, exec, exOps, exDraw_nil, wanted, aop, Opd.ev, Opd.taken, Frame.get, abin, aun, cmpInt, eqOp, Frame.putO, Frame.put, Frame.keep, params, kid5, AVal.known, AVal.cells, ASt.push, loadAt, mk, ASt.get, getL, results, result, ASt.trunc, underL, AVal.under, Own.under, storeAt, mayPutL, mayPut, splice, one_int, one_str, ASt.set, setL, keepF, fz_under, fill, zeros, rd_fn, rd_nilf, st_nilf, st_fn]

end
end Go.Proofs.YtdhgdpokdhjanaaGreat.Abs
/- fits; a round of tree.shaped; tree.shaped. -/
namespace Go.Proofs.YtdhgdpokdhjanaaGreat.Abs
open Go

def Shp.small (s : Shp) : Bool := s.tx.small && (s.kids.all KP.small && (decide (s.kids.length ≤ 100) && match s.list with | none => true | some p => p.small))

section
variable {a b c : AObj}

theorem fit_nils {x sv : List AVal} : Loop C1 fitLoop [2, 42, 43, 44] [(2, .ref 3 0), (42, .nils), (43, .int .i64 0), (44, .int .i64 0)] (fitS a b c x sv) =
      some (.exit 0, [(2, .ref 3 0), (42, .nils), (43, .int .i64 0), (44, .int .i64 0), (45, .bool false)], fitS a b c x sv) := by
  rw [Loop_eq]
  simp [stepLoop, fitLoop, f371, fitS, ss, runBody, exec, exOps, exDraw_nil, wanted, aop, Opd.ev, Opd.taken, Frame.get, abin, aun, cmpInt, eqOp, Frame.putO, Frame.put, Frame.keep, params, kid5, AVal.known, AVal.cells, ASt.push, loadAt, mk, ASt.get, getL, results, result, ASt.trunc, underL, AVal.under, Own.under, storeAt, mayPutL, mayPut, splice, one_int, one_str, ASt.set, setL, keepF, fz_under, fill, zeros, rd_fn, rd_nilf, st_nilf, st_fn]

theorem fits_fail {txv kidsv listv : AVal} {m : Int} {fi : Nat} {cap : List AVal} (hv : txv = .fn fi [] cap) (k : Int) (t : List UInt8) (p e : Int) (kv : AVal) (hst : kv.strip = kv)
    (hc : ∀ s, Call C1 fi (.str t :: cap) s = some (.bool false, s)) : Call C1 371 [.agg [txv, kidsv, listv, .int .i64 m], .agg (kid5 k t p e kv)] ⟨3, [a, b, c]⟩ = some (.bool false, ⟨3, [a, b, c]⟩) := by
  subst hv
  rw [run1_of (af := f371) rfl rfl]
  simp [f371, hc, hst, ss, runBody, exec, exOps, exDraw_nil, wanted, aop, Opd.ev, Opd.taken, Frame.get, abin, aun, cmpInt, eqOp, Frame.putO, Frame.put, Frame.keep, params, kid5, AVal.known, AVal.cells, ASt.push, loadAt, mk, ASt.get, getL, results, result, ASt.trunc, underL, AVal.under, Own.under, storeAt, mayPutL, mayPut, splice, one_int, one_str, ASt.set, setL, keepF, fz_under, fill, zeros, rd_fn, rd_nilf, st_nilf, st_fn]

theorem lens_nils {kidsv : AVal} (h : kidsv = .nils) : kidsv.strip = .nils := by subst h; rfl

set_option maxHeartbeats 4000000 in
/-- A list. -/
theorem fits_list {txv kidsv : AVal} {m : Nat} {fi : Nat} {cap : List AVal} (hv : txv = .fn fi [] cap) {q : KP} (hq : q.small = true) (k : Int) (t : List UInt8) (p e : Int) {kv : AVal} {ks : List Nd} (hk : ndV kv = some ks)
    (hc : ∀ s, Call C1 fi (.str t :: cap) s = some (.bool true, s)) : Call C1 371 [.agg [txv, kidsv, q.val, .int .i64 m], .agg (kid5 k t p e kv)] ⟨3, [a, b, c]⟩ = some (.bool (decide (m ≤ ks.length) && (ks.map Nd.kind).all q.test), ⟨3, [a, b, c]⟩) := by
  rw [run1_of (af := f371) rfl rfl]
  have hst := ndV_strip hk
  obtain ⟨gi, gap, hqv, _⟩ := KP.call q hq
  rcases ndV_cases hk with ⟨rfl, rfl⟩ | ⟨cs, n, o, rfl, ho, hlen, hn, hL⟩
  · have h0 := fit_nils (a := a) (b := b) (c := c) (x := kid5 k t p e .nils) (sv := [txv, kidsv, q.val, .int .i64 m])
    rw [hqv] at h0 ⊢
    subst hv
    simp only [fitS, kid5] at h0
    by_cases hm : m = 0
    · subst hm
      simp [fitLoop, f371] at h0
      simp [f371, hc, h0, ss, runBody, exec, exOps, exDraw_nil, wanted, aop, Opd.ev, Opd.taken, Frame.get, abin, aun, cmpInt, eqOp, Frame.putO, Frame.put, Frame.keep, params, kid5, AVal.known, AVal.cells, ASt.push, loadAt, mk, ASt.get, getL, results, result, ASt.trunc, underL, AVal.under, Own.under, storeAt, mayPutL, mayPut, splice, one_int, one_str, ASt.set, setL, keepF, fz_under, fill, zeros, rd_fn, rd_nilf, st_nilf, st_fn]
    · have h1 : ¬ (m ≤ 0) := by omega
      have h2 : (0 : Int) < (m : Int) := by omega
      have h5 : 0 < m := by omega
      simp [f371, hc, hm, h1, h2, h5, ss, runBody, exec, exOps, exDraw_nil, wanted, aop, Opd.ev, Opd.taken, Frame.get, abin, aun, cmpInt, eqOp, Frame.putO, Frame.put, Frame.keep, params, kid5, AVal.known, AVal.cells, ASt.push, loadAt, mk, ASt.get, getL, results, result, ASt.trunc, underL, AVal.under, Own.under, storeAt, mayPutL, mayPut, splice, one_int, one_str, ASt.set, setL, keepF, fz_under, fill, zeros, rd_fn, rd_nilf, st_nilf, st_fn]
  · have hn2 : n = ks.length := by have := ndL_length hL; omega
    subst hn2
    have h0 := fit_list (a := a) (b := b) (c := c) (x := kid5 k t p e (.sl cs ks.length o)) (txv := txv) (m := m) hq (kidsv := kidsv) ho hL hn ks 0 rfl (Nat.zero_le _)
    rw [hqv] at h0 ⊢
    subst hv
    simp only [fitS, kid5] at h0
    by_cases hm : m ≤ ks.length
    · have h2 : ¬ ((ks.length : Int) < (m : Int)) := by omega
      split at h0
      · rename_i hr
        rw [hr]
        simp [fitLoop, f371] at h0
        rcases ho with rfl | rfl <;> simp [f371, hc, h0, hm, h2, ss, runBody, exec, exOps, exDraw_nil, wanted, aop, Opd.ev, Opd.taken, Frame.get, abin, aun, cmpInt, eqOp, Frame.putO, Frame.put, Frame.keep, params, kid5, AVal.known, AVal.cells, ASt.push, loadAt, mk, ASt.get, getL, results, result, ASt.trunc, underL, AVal.under, Own.under, storeAt, mayPutL, mayPut, splice, one_int, one_str, ASt.set, setL, keepF, fz_under, fill, zeros, rd_fn, rd_nilf, st_nilf, st_fn]
      · rename_i hr
        have hr : (ks.map Nd.kind).all q.test = false := by simpa using hr
        rw [hr]
        obtain ⟨y, h0⟩ := h0
        simp [fitLoop, f371] at h0
        rcases ho with rfl | rfl <;> simp [f371, hc, h0, hm, h2, ss, runBody, exec, exOps, exDraw_nil, wanted, aop, Opd.ev, Opd.taken, Frame.get, abin, aun, cmpInt, eqOp, Frame.putO, Frame.put, Frame.keep, params, kid5, AVal.known, AVal.cells, ASt.push, loadAt, mk, ASt.get, getL, results, result, ASt.trunc, underL, AVal.under, Own.under, storeAt, mayPutL, mayPut, splice, one_int, one_str, ASt.set, setL, keepF, fz_under, fill, zeros, rd_fn, rd_nilf, st_nilf, st_fn]
    · have h2 : (ks.length : Int) < (m : Int) := by omega
      rcases ho with rfl | rfl <;> simp [f371, hc, hm, h2, ss, runBody, exec, exOps, exDraw_nil, wanted, aop, Opd.ev, Opd.taken, Frame.get, abin, aun, cmpInt, eqOp, Frame.putO, Frame.put, Frame.keep, params, kid5, AVal.known, AVal.cells, ASt.push, loadAt, mk, ASt.get, getL, results, result, ASt.trunc, underL, AVal.under, Own.under, storeAt, mayPutL, mayPut, splice, one_int, one_str, ASt.set, setL, keepF, fz_under, fill, zeros, rd_fn, rd_nilf, st_nilf, st_fn]

set_option maxHeartbeats 4000000 in
/-- No list. -/
theorem fits_fix {txv : AVal} {m : Int} {fi : Nat} {cap : List AVal} (hv : txv = .fn fi [] cap) {l : List KP} (hl : ∀ p ∈ l, p.small = true) (hl1 : l.length ≤ limit) (k : Int) (t : List UInt8) (p e : Int) {kv : AVal} {ks : List Nd} (hk : ndV kv = some ks)
    (hc : ∀ s, Call C1 fi (.str t :: cap) s = some (.bool true, s)) : Call C1 371 [.agg [txv, kidsVal l, .nilf, .int .i64 m], .agg (kid5 k t p e kv)] ⟨3, [a, b, c]⟩ = some (.bool (decide (ks.length = l.length) && tests l (ks.map Nd.kind)), ⟨3, [a, b, c]⟩) := by
  rw [run1_of (af := f371) rfl rfl]
  have hst := ndV_strip hk
  rcases ndV_cases hk with ⟨rfl, rfl⟩ | ⟨cs, n, o, rfl, ho, hlen, hn, hL⟩
  · have h0 := fit_nils (a := a) (b := b) (c := c) (x := kid5 k t p e .nils) (sv := [txv, kidsVal l, .nilf, .int .i64 m])
    subst hv
    simp only [fitS, kid5] at h0
    cases l with
    | nil =>
      simp [fitLoop, f371, kidsVal] at h0
      simp [f371, hc, h0, kidsVal, tests, ss, runBody, exec, exOps, exDraw_nil, wanted, aop, Opd.ev, Opd.taken, Frame.get, abin, aun, cmpInt, eqOp, Frame.putO, Frame.put, Frame.keep, params, kid5, AVal.known, AVal.cells, ASt.push, loadAt, mk, ASt.get, getL, results, result, ASt.trunc, underL, AVal.under, Own.under, storeAt, mayPutL, mayPut, splice, one_int, one_str, ASt.set, setL, keepF, fz_under, fill, zeros, rd_fn, rd_nilf, st_nilf, st_fn]
    | cons q l =>
      have h1 : ¬ (0 = (q :: l).length) := by simp
      have h2 : ¬ ((0 : Int) = ((q :: l).length : Int)) := by simp only [List.length_cons]; omega
      have hkv : kidsVal (q :: l) = .sl ((q :: l).map KP.val) (q :: l).length .exact := rfl
      rw [hkv]
      have hd : decide (([] : List Nd).length = (q :: l).length) = false := by simp
      rw [hd]
      generalize (q :: l).map KP.val = lv
      generalize (q :: l).length = ln at h1 h2 ⊢
      simp [f371, hc, h1, h2, ss, runBody, exec, exOps, exDraw_nil, wanted, aop, Opd.ev, Opd.taken, Frame.get, abin, aun, cmpInt, eqOp, Frame.putO, Frame.put, Frame.keep, params, kid5, AVal.known, AVal.cells, ASt.push, loadAt, mk, ASt.get, getL, results, result, ASt.trunc, underL, AVal.under, Own.under, storeAt, mayPutL, mayPut, splice, one_int, one_str, ASt.set, setL, keepF, fz_under, fill, zeros, rd_fn, rd_nilf, st_nilf, st_fn]
  · have hn2 : n = ks.length := by have := ndL_length hL; omega
    subst hn2
    by_cases hm : ks.length = l.length
    · cases l with
      | nil =>
        have hks : ks = [] := List.length_eq_zero_iff.1 hm
        subst hks
        have hcs : cs = [] := List.length_eq_zero_iff.1 (by simpa using hlen)
        subst hcs
        have h0 : Loop C1 fitLoop [2, 42, 43, 44] [(2, .ref 3 0), (42, .sl [] 0 o), (43, .int .i64 0), (44, .int .i64 0)] (fitS a b c (kid5 k t p e (.sl [] 0 o)) [txv, .nils, .nilf, .int .i64 m]) =
          some (.exit 0, [(2, .ref 3 0), (42, .sl [] 0 o), (43, .int .i64 0), (44, .int .i64 0), (45, .bool false)], fitS a b c (kid5 k t p e (.sl [] 0 o)) [txv, .nils, .nilf, .int .i64 m]) := by
          rw [Loop_eq]
          rcases ho with rfl | rfl <;> simp [stepLoop, fitLoop, f371, fitS, ss, runBody, exec, exOps, exDraw_nil, wanted, aop, Opd.ev, Opd.taken, Frame.get, abin, aun, cmpInt, eqOp, Frame.putO, Frame.put, Frame.keep, params, kid5, AVal.known, AVal.cells, ASt.push, loadAt, mk, ASt.get, getL, results, result, ASt.trunc, underL, AVal.under, Own.under, storeAt, mayPutL, mayPut, splice, one_int, one_str, ASt.set, setL, keepF, fz_under, fill, zeros, rd_fn, rd_nilf, st_nilf, st_fn]
        subst hv
        simp only [fitS, kid5] at h0
        simp [fitLoop, f371] at h0
        rcases ho with rfl | rfl <;> simp [f371, hc, h0, kidsVal, tests, ss, runBody, exec, exOps, exDraw_nil, wanted, aop, Opd.ev, Opd.taken, Frame.get, abin, aun, cmpInt, eqOp, Frame.putO, Frame.put, Frame.keep, params, kid5, AVal.known, AVal.cells, ASt.push, loadAt, mk, ASt.get, getL, results, result, ASt.trunc, underL, AVal.under, Own.under, storeAt, mayPutL, mayPut, splice, one_int, one_str, ASt.set, setL, keepF, fz_under, fill, zeros, rd_fn, rd_nilf, st_nilf, st_fn]
      | cons q l =>
        have h0 := fit_fix (a := a) (b := b) (c := c) (x := kid5 k t p e (.sl cs ks.length o)) (txv := txv) (m := m) hl ho hL hn hm.symm ks (q :: l) 0 rfl rfl (Nat.zero_le _)
        have hkv : kidsVal (q :: l) = .sl ((q :: l).map KP.val) (q :: l).length .exact := rfl
        rw [hkv]
        generalize (q :: l).map KP.val = lv at h0 ⊢
        rw [← hm] at h0 ⊢
        subst hv
        simp only [fitS, kid5] at h0
        split at h0
        · rename_i hr
          rw [hr]
          simp [fitLoop, f371] at h0
          rcases ho with rfl | rfl <;> simp [f371, hc, h0, ss, runBody, exec, exOps, exDraw_nil, wanted, aop, Opd.ev, Opd.taken, Frame.get, abin, aun, cmpInt, eqOp, Frame.putO, Frame.put, Frame.keep, params, kid5, AVal.known, AVal.cells, ASt.push, loadAt, mk, ASt.get, getL, results, result, ASt.trunc, underL, AVal.under, Own.under, storeAt, mayPutL, mayPut, splice, one_int, one_str, ASt.set, setL, keepF, fz_under, fill, zeros, rd_fn, rd_nilf, st_nilf, st_fn]
        · rename_i hr
          have hr : tests (q :: l) (ks.map Nd.kind) = false := by simpa using hr
          rw [hr]
          obtain ⟨y, h0⟩ := h0
          simp [fitLoop, f371] at h0
          rcases ho with rfl | rfl <;> simp [f371, hc, h0, ss, runBody, exec, exOps, exDraw_nil, wanted, aop, Opd.ev, Opd.taken, Frame.get, abin, aun, cmpInt, eqOp, Frame.putO, Frame.put, Frame.keep, params, kid5, AVal.known, AVal.cells, ASt.push, loadAt, mk, ASt.get, getL, results, result, ASt.trunc, underL, AVal.under, Own.under, storeAt, mayPutL, mayPut, splice, one_int, one_str, ASt.set, setL, keepF, fz_under, fill, zeros, rd_fn, rd_nilf, st_nilf, st_fn]
    · have h2 : ¬ ((ks.length : Int) = (l.length : Int)) := by omega
      cases l with
      | nil =>
        have h3 : ¬ (ks.length : Int) = 0 := h2
        have h4 : ¬ ks = [] := fun h => hm (by simp [h])
        subst hv
        rcases ho with rfl | rfl <;> simp [f371, hc, hm, h3, h4, kidsVal, ss, runBody, exec, exOps, exDraw_nil, wanted, aop, Opd.ev, Opd.taken, Frame.get, abin, aun, cmpInt, eqOp, Frame.putO, Frame.put, Frame.keep, params, kid5, AVal.known, AVal.cells, ASt.push, loadAt, mk, ASt.get, getL, results, result, ASt.trunc, underL, AVal.under, Own.under, storeAt, mayPutL, mayPut, splice, one_int, one_str, ASt.set, setL, keepF, fz_under, fill, zeros, rd_fn, rd_nilf, st_nilf, st_fn]
      | cons q l =>
        have hkv : kidsVal (q :: l) = .sl ((q :: l).map KP.val) (q :: l).length .exact := rfl
        rw [hkv]
        generalize (q :: l).map KP.val = lv
        have hd : decide (ks.length = (q :: l).length) = false := by simpa using hm
        rw [hd]
        generalize (q :: l).length = ln at h2 ⊢
        subst hv
        rcases ho with rfl | rfl <;> simp [f371, hc, h2, ss, runBody, exec, exOps, exDraw_nil, wanted, aop, Opd.ev, Opd.taken, Frame.get, abin, aun, cmpInt, eqOp, Frame.putO, Frame.put, Frame.keep, params, kid5, AVal.known, AVal.cells, ASt.push, loadAt, mk, ASt.get, getL, results, result, ASt.trunc, underL, AVal.under, Own.under, storeAt, mayPutL, mayPut, splice, one_int, one_str, ASt.set, setL, keepF, fz_under, fill, zeros, rd_fn, rd_nilf, st_nilf, st_fn]

theorem fits_call {s : Shp} (hs : s.small = true) (k : Int) (t : List UInt8) (ht : t.length ≤ limit) (p e : Int) {kv : AVal} {ks : List Nd} (hk : ndV kv = some ks) :
    Call C1 371 [s.val, .agg (kid5 k t p e kv)] ⟨3, [a, b, c]⟩ = some (.bool (s.fits t (ks.map Nd.kind)), ⟨3, [a, b, c]⟩) := by
  obtain ⟨tx, kids, list, most⟩ := s
  simp only [Shp.small, Bool.and_eq_true, List.all_eq_true, decide_eq_true_eq] at hs
  obtain ⟨h1, h2, h3, h4⟩ := hs
  obtain ⟨fi, cap, hv, hc⟩ := TP.call tx h1
  unfold Shp.fits Shp.val
  cases hx : tx.test t
  · rw [fits_fail hv k t p e kv (ndV_strip hk) (fun s => by rw [hc t s ht, hx])]
    simp [hx]
  · have hc : ∀ s, Call C1 fi (.str t :: cap) s = some (.bool true, s) := fun s => by rw [hc t s ht, hx]
    cases list with
    | none =>
      show Call C1 371 [.agg [tx.val, kidsVal kids, .nilf, .int .i64 most], .agg (kid5 k t p e kv)] ⟨3, [a, b, c]⟩ = _
      rw [fits_fix hv h2 (le_limit h3) k t p e hk hc]
      simp [hx]
    | some q =>
      show Call C1 371 [.agg [tx.val, kidsVal kids, q.val, .int .i64 most], .agg (kid5 k t p e kv)] ⟨3, [a, b, c]⟩ = _
      rw [fits_list hv h4 k t p e hk hc]
      simp [hx]

end
end Go.Proofs.YtdhgdpokdhjanaaGreat.Abs
