/- The printer's other methods. -/
import Derived.Test.YtdhgdpokdhjanaaGreatMZ1
set_option linter.unusedSimpArgs false
set_option linter.unusedVariables false
namespace Go.Proofs.YtdhgdpokdhjanaaGreat.Abs
open Go

section
variable {k : Int} {t : List UInt8} {p e d : Int} {kv : AVal} {ks : List Nd} {oa ob : AObj}

theorem u_96 : Call C2 96 [.agg [.int .i64 d], .agg (kid5 k t p e kv)] ⟨2, [oa, ob]⟩ = some (.str t, ⟨2, [oa, ob]⟩) := by
  rw [run_of (af := f96) rfl rfl, v_run rfl]
  simp [f96, kid5, vv, Frame.put, keepF, Opd.ev, Opd.taken, aun, params, AVal.cells, AVal.known, entries, ASt.push, loadAt, mk, ASt.get, getL, results, result, ASt.trunc, underL, AVal.under, Own.under, storeAt, mayPutL, mayPut, splice, ASt.set, setL, fill, zeros, List.map_cons, List.map_nil, List.nil_append, List.append_nil, Option.map_some, Option.bind_some]

theorem u_95 (hkv : ndV kv = some ks) {c0 : List UInt8} (h0 : Call C2 85 [.agg [.int .i64 d], .agg (kid5 k t p e kv), .int .i64 0] ⟨0, []⟩ = some (.str c0, ⟨0, []⟩))
    (hlen : (if t = [110, 111, 116] then [[110, 111, 116, 32], c0].flatten else [t, c0].flatten).length ≤ limit) :
    Call C2 95 [.agg [.int .i64 d], .agg (kid5 k t p e kv)] ⟨2, [oa, ob]⟩ = some (.str (if t = [110, 111, 116] then [[110, 111, 116, 32], c0].flatten else [t, c0].flatten), ⟨2, [oa, ob]⟩) := by
  have hst := ndV_strip hkv
  have hu0 := ndV_under _ hkv
  by_cases ht : t = [110, 111, 116]
  · rw [if_pos ht] at hlen ⊢
    have hp := put_call [[110, 111, 116, 32], c0] (le_limit (by simp)) hlen
    generalize [[110, 111, 116, 32], c0].flatten = R at hp ⊢
    simp only [List.map_cons, List.map_nil, List.length_cons, List.length_nil, Nat.reduceAdd, Nat.zero_add] at hp
    subst ht
    simp only [kid5] at h0
    rw [run_of (af := f95) rfl rfl, v_run rfl]
    simp [f95, kid5, hst, hu0, h0, hp, vv, Frame.put, keepF, Opd.ev, Opd.taken, aun, params, AVal.cells, AVal.known, entries, ASt.push, loadAt, mk, ASt.get, getL, results, result, ASt.trunc, underL, AVal.under, Own.under, storeAt, mayPutL, mayPut, splice, ASt.set, setL, fill, zeros, List.map_cons, List.map_nil, List.nil_append, List.append_nil, Option.map_some, Option.bind_some]
  · rw [if_neg ht] at hlen ⊢
    have hp := put_call [t, c0] (le_limit (by simp)) hlen
    generalize [t, c0].flatten = R at hp ⊢
    simp only [List.map_cons, List.map_nil, List.length_cons, List.length_nil, Nat.reduceAdd, Nat.zero_add] at hp
    simp only [kid5] at h0
    rw [run_of (af := f95) rfl rfl, v_run rfl]
    simp [f95, kid5, hst, hu0, h0, hp, ht, beq_no ht, vv, Frame.put, keepF, Opd.ev, Opd.taken, aun, params, AVal.cells, AVal.known, entries, ASt.push, loadAt, mk, ASt.get, getL, results, result, ASt.trunc, underL, AVal.under, Own.under, storeAt, mayPutL, mayPut, splice, ASt.set, setL, fill, zeros, List.map_cons, List.map_nil, List.nil_append, List.append_nil, Option.map_some, Option.bind_some]

theorem u_93 (hkv : ndV kv = some ks) (hi : 0 < ks.length) {c0 : List UInt8} (h0 : (ks.getD 0 nd0).kind ≠ 0 → Call C2 85 [.agg [.int .i64 d], .agg (kid5 k t p e kv), .int .i64 0] ⟨0, []⟩ = some (.str c0, ⟨0, []⟩))
    (hlen : (if (ks.getD 0 nd0).kind = 0 then [114, 101, 116, 117, 114, 110, 59] else [[114, 101, 116, 117, 114, 110, 32], c0, [59]].flatten).length ≤ limit) :
    Call C2 93 [.agg [.int .i64 d], .agg (kid5 k t p e kv)] ⟨2, [oa, ob]⟩ = some (.str (if (ks.getD 0 nd0).kind = 0 then [114, 101, 116, 117, 114, 110, 59] else [[114, 101, 116, 117, 114, 110, 32], c0, [59]].flatten), ⟨2, [oa, ob]⟩) := by
  obtain ⟨cs, o, k0, t0, p0, e0, kv0, ks0, rfl, ho, hu, hn, hnd, hkv0, hcut⟩ := nd_at hkv (i := 0) hi
  have hm0 : (0 : Int) < (ks.length : Int) := by omega
  have hcut2 : cs[0]? = some (.int .i64 k0) := by
    have h := hcut
    unfold cut at h
    split at h
    · have h5 := Option.some.inj h
      simp only [Nat.zero_mul, List.drop_zero] at h5
      match cs, h5 with
      | a :: _, h5 =>
        simp only [kid5, List.take_succ_cons, List.cons.injEq] at h5
        simp [h5.1]
    · cases h
  have hcut3 : cut cs 0 1 = some [.int .i64 k0] := cut_get hcut2
  rw [hnd] at h0 hlen ⊢
  simp only [Nd.kind] at h0 hlen ⊢
  by_cases hk : k0 = 0
  · subst hk
    simp only [if_true]
    rw [run_of (af := f93) rfl rfl, v_run rfl]
    rcases ho with rfl | rfl <;> simp [f93, kid5, hu, hi, hm0, hcut3, vv, Frame.put, keepF, Opd.ev, Opd.taken, aun, params, AVal.cells, AVal.known, entries, ASt.push, loadAt, mk, ASt.get, getL, results, result, ASt.trunc, underL, AVal.under, Own.under, storeAt, mayPutL, mayPut, splice, ASt.set, setL, fill, zeros, List.map_cons, List.map_nil, List.nil_append, List.append_nil, Option.map_some, Option.bind_some]
  · simp only [hk, if_false] at hlen ⊢
    have h0 := h0 hk
    have hp := put_call [[114, 101, 116, 117, 114, 110, 32], c0, [59]] (le_limit (by simp)) hlen
    generalize [[114, 101, 116, 117, 114, 110, 32], c0, [59]].flatten = R at hp ⊢
    simp only [List.map_cons, List.map_nil, List.length_cons, List.length_nil, Nat.reduceAdd, Nat.zero_add] at hp
    simp only [kid5] at h0
    rw [run_of (af := f93) rfl rfl, v_run rfl]
    rcases ho with rfl | rfl <;> simp [f93, kid5, hu, hi, hm0, hcut3, hk, h0, hp, vv, Frame.put, keepF, Opd.ev, Opd.taken, aun, params, AVal.cells, AVal.known, entries, ASt.push, loadAt, mk, ASt.get, getL, results, result, ASt.trunc, underL, AVal.under, Own.under, storeAt, mayPutL, mayPut, splice, ASt.set, setL, fill, zeros, List.map_cons, List.map_nil, List.nil_append, List.append_nil, Option.map_some, Option.bind_some]

/-- The first cell of a kid. -/
theorem cut_kind {cs : List AVal} {i : Nat} {k0 : Int} {t0 : List UInt8} {p0 e0 : Int} {kv0 : AVal} (h : cut cs (i * 5) 5 = some (kid5 k0 t0 p0 e0 kv0)) : cut cs (i * 5) 1 = some [.int .i64 k0] := by
  unfold cut at h ⊢
  split at h
  · rename_i hl
    rw [if_pos (by omega)]
    have h5 := Option.some.inj h
    have : ((cs.drop (i * 5)).take 5).take 1 = [.int .i64 k0] := by rw [h5]; rfl
    rw [List.take_take] at this
    simpa using this
  · cases h

theorem u_79 (hkv : ndV kv = some ks) (hi : 2 < ks.length) {c0 x1 x2 : List UInt8} (h0 : Call C2 85 [.agg [.int .i64 d], .agg (kid5 k t p e kv), .int .i64 0] ⟨0, []⟩ = some (.str c0, ⟨0, []⟩))
    (h1 : KidW 97 d ks kv 1 x1) (h2 : (ks.getD 2 nd0).kind ≠ 0 → KidW 97 d ks kv 2 x2)
    (hlen : (if (ks.getD 2 nd0).kind = 0 then [[105, 102, 32], c0, [32], x1].flatten else [[[105, 102, 32], c0, [32], x1].flatten, [32, 101, 108, 115, 101, 32], x2].flatten).length ≤ limit) :
    Call C2 79 [.agg [.int .i64 d], .agg (kid5 k t p e kv)] ⟨2, [oa, ob]⟩ = some (.str (if (ks.getD 2 nd0).kind = 0 then [[105, 102, 32], c0, [32], x1].flatten else [[[105, 102, 32], c0, [32], x1].flatten, [32, 101, 108, 115, 101, 32], x2].flatten), ⟨2, [oa, ob]⟩) := by
  obtain ⟨cs, o, k1, t1, p1, e1, kv1, ks1, rfl, ho, hu, hn, hnd1, hkv1, hcut1⟩ := nd_at hkv (i := 1) (by omega)
  obtain ⟨cs', o', k2, t2, p2, e2, kv2, ks2, hq, ho', hu', hn', hnd2, hkv2, hcut2⟩ := nd_at hkv (i := 2) (by omega)
  cases hq
  have hc1 := h1 _ _ _ _ _ _ _ _ rfl hnd1 hkv1 hcut1
  have hm1 : (1 : Int) < (ks.length : Int) := by omega
  have hm2 : (2 : Int) < (ks.length : Int) := by omega
  have hl1 : 1 < ks.length := by omega
  have hz1 : cut cs 5 5 = some (kid5 k1 t1 p1 e1 kv1) := hcut1
  have hz2 : cut cs 10 5 = some (kid5 k2 t2 p2 e2 kv2) := hcut2
  have hy2 : cut cs 10 1 = some [.int .i64 k2] := cut_kind hcut2
  have hv1 := ndV_under _ hkv1
  have hv2 := ndV_under _ hkv2
  rw [hnd2] at hlen ⊢
  have h2' : k2 ≠ 0 → Call C2 97 [.agg [.int .i64 d], .agg (kid5 k2 t2 p2 e2 kv2)] ⟨0, []⟩ = some (.str x2, ⟨0, []⟩) := fun hk => h2 (by rw [hnd2]; exact hk) _ _ _ _ _ _ _ _ rfl hnd2 hkv2 hcut2
  simp only [Nd.kind] at hlen ⊢
  have hl0 : ([[105, 102, 32], c0, [32], x1] : List (List UInt8)).flatten.length ≤ limit := by
    by_cases hk : k2 = 0
    · simpa only [hk, if_true] using hlen
    · simp only [hk, if_false] at hlen
      simp only [List.flatten_cons, List.length_append] at hlen ⊢
      omega
  have hp := put_call [[105, 102, 32], c0, [32], x1] (le_limit (by simp)) hl0
  generalize [[105, 102, 32], c0, [32], x1].flatten = Q at hp hlen ⊢
  simp only [List.map_cons, List.map_nil, List.length_cons, List.length_nil, Nat.reduceAdd, Nat.zero_add] at hp
  simp only [kid5] at h0 hc1 hz1 hz2
  by_cases hk : k2 = 0
  · subst hk
    simp only [if_true]
    rw [run_of (af := f79) rfl rfl, v_run rfl]
    rcases ho with rfl | rfl <;> simp [f79, kid5, hu, hi, hm1, hm2, hl1, hz1, hz2, hy2, hv1, h0, hc1, hp, vv, Frame.put, keepF, Opd.ev, Opd.taken, aun, params, AVal.cells, AVal.known, entries, ASt.push, loadAt, mk, ASt.get, getL, results, result, ASt.trunc, underL, AVal.under, Own.under, storeAt, mayPutL, mayPut, splice, ASt.set, setL, fill, zeros, List.map_cons, List.map_nil, List.nil_append, List.append_nil, Option.map_some, Option.bind_some]
  · simp only [hk, if_false] at hlen ⊢
    have h2' := h2' hk
    have hp2 := put_call [Q, [32, 101, 108, 115, 101, 32], x2] (le_limit (by simp)) hlen
    generalize [Q, [32, 101, 108, 115, 101, 32], x2].flatten = R at hp2 ⊢
    simp only [List.map_cons, List.map_nil, List.length_cons, List.length_nil, Nat.reduceAdd, Nat.zero_add] at hp2
    simp only [kid5] at h2'
    rw [run_of (af := f79) rfl rfl, v_run rfl]
    rcases ho with rfl | rfl <;> simp [f79, kid5, hu, hi, hm1, hm2, hl1, hz1, hz2, hy2, hv1, hv2, h0, hc1, hp, hk, h2', hp2, vv, Frame.put, keepF, Opd.ev, Opd.taken, aun, params, AVal.cells, AVal.known, entries, ASt.push, loadAt, mk, ASt.get, getL, results, result, ASt.trunc, underL, AVal.under, Own.under, storeAt, mayPutL, mayPut, splice, ASt.set, setL, fill, zeros, List.map_cons, List.map_nil, List.nil_append, List.append_nil, Option.map_some, Option.bind_some]

theorem w_98 (hkv : ndV kv = some ks) {s : List UInt8} (hw : k ≠ 0 → Call C2 97 [.agg [.int .i64 d], .agg (kid5 k t p e kv)] ⟨0, []⟩ = some (.str s, ⟨0, []⟩)) (hlen : (wrT (.mk k t ks) s).length ≤ limit) :
    Call C2 98 [.agg [.int .i64 d], .agg (kid5 k t p e kv)] ⟨0, []⟩ = some (.str (wrT (.mk k t ks) s), ⟨0, []⟩) := by
  have hst := ndV_strip hkv
  have hu0 := ndV_under _ hkv
  unfold wrT at hlen ⊢
  simp only [Nd.kind] at hlen ⊢
  by_cases hk : k = 0
  · subst hk
    simp only [if_true]
    rw [run_of (af := f98) rfl rfl, v_run rfl]
    simp [f98, kid5, vv, Frame.put, keepF, Opd.ev, Opd.taken, aun, params, AVal.cells, AVal.known, entries, ASt.push, loadAt, mk, ASt.get, getL, results, result, ASt.trunc, underL, AVal.under, Own.under, storeAt, mayPutL, mayPut, splice, ASt.set, setL, fill, zeros, List.map_cons, List.map_nil, List.nil_append, List.append_nil, Option.map_some, Option.bind_some]
  · simp only [hk, if_false] at hlen ⊢
    have hw := hw hk
    have hp := put_call [[58, 32], s] (le_limit (by simp)) (by simpa using hlen)
    simp only [List.map_cons, List.map_nil, List.length_cons, List.length_nil, Nat.reduceAdd, Nat.zero_add, List.flatten_cons, List.flatten_nil, List.append_nil] at hp
    generalize [58, 32] ++ s = R at hp ⊢
    simp only [kid5] at hw
    rw [run_of (af := f98) rfl rfl, v_run rfl]
    simp [f98, kid5, hst, hu0, hk, hw, hp, vv, Frame.put, keepF, Opd.ev, Opd.taken, aun, params, AVal.cells, AVal.known, entries, ASt.push, loadAt, mk, ASt.get, getL, results, result, ASt.trunc, underL, AVal.under, Own.under, storeAt, mayPutL, mayPut, splice, ASt.set, setL, fill, zeros, List.map_cons, List.map_nil, List.nil_append, List.append_nil, Option.map_some, Option.bind_some]

/-! ### All kids -/

def allLoop : ACode := match f71.code with
  | .seq _ (.seq _ (.seq (.seq _ (.block _ (.loop b _))) _)) => b
  | _ => .bad

def accV : List (List UInt8) → AVal
  | [] => .nils
  | x :: l => .sl ((x :: l).map AVal.str) (x :: l).length (.mine 1)

theorem all_loop (hkv : ndV kv = some ks) {n : Nat} (hn : n ≤ limit) {cK : Nat → List UInt8} (hK : ∀ i : Nat, i < n → Call C2 85 [.agg [.int .i64 d], .agg (kid5 k t p e kv), .int .i64 i] ⟨0, []⟩ = some (.str (cK i), ⟨0, []⟩)) :
    ∀ (r i : Nat) (acc : List (List UInt8)), i + r = n → acc.length = i →
      Loop C2 allLoop [2, 3, 5, 9, 10] [(2, .ref 0 0), (3, .ref 1 0), (5, accV acc), (9, .int .i64 n), (10, .int .i64 i)] ⟨2, [.cells (kid5 k t p e kv), .cells [.int .i64 d]]⟩ =
        some (.exit 0, [(2, .ref 0 0), (3, .ref 1 0), (5, accV (acc ++ (List.range' i r).map cK)), (9, .int .i64 n), (10, .int .i64 n), (11, .bool false)], ⟨2, [.cells (kid5 k t p e kv), .cells [.int .i64 d]]⟩)
  | 0, i, acc, h, ha => by
    have : i = n := by omega
    subst this
    rw [Loop_eq, v_stepLoop]
    have hacc : accV acc = .nils ∨ ∃ c m, accV acc = .sl c m (.mine 1) := by cases acc <;> simp [accV]
    simp only [List.range', List.map_nil, List.append_nil]
    generalize accV acc = av at hacc
    rcases hacc with rfl | ⟨c, m, rfl⟩ <;> simp [allLoop, f71, vv, Frame.put, keepF, Opd.ev, Opd.taken, aun, params, AVal.cells, AVal.known, entries, ASt.push, loadAt, mk, ASt.get, getL, results, result, ASt.trunc, underL, AVal.under, Own.under, storeAt, mayPutL, mayPut, splice, ASt.set, setL, fill, zeros, List.map_cons, List.map_nil, List.nil_append, List.append_nil, Option.map_some, Option.bind_some]
  | r + 1, i, acc, h, ha => by
    have hlt : i < n := by omega
    have hlt2 : (i : Int) < (n : Int) := by omega
    have hw : IntKind.wrap .i64 ((i : Int) + 1) = ((i + 1 : Nat) : Int) := by
      have hlim : limit = 2 ^ 36 := rfl
      rw [wrap_i64 (by omega) (by omega)]; rfl
    have ih := all_loop hkv hn hK r (i + 1) (acc ++ [cK i]) (by omega) (by simp [ha])
    have hK := hK i hlt
    have hst := ndV_strip hkv
    have hu0 := ndV_under _ hkv
    have hb : acc.length + 1 ≤ limit := by omega
    simp only [List.range'_succ, List.map_cons]
    rw [List.append_assoc, List.singleton_append] at ih
    rw [← ih, Loop_eq, v_stepLoop]
    simp only [kid5] at hK
    cases acc with
    | nil =>
      simp [allLoop, f71, kid5, hlt, hlt2, hst, hu0, hK, hw, accV, aappend, newCells, base, limit, vv, Frame.put, keepF, Opd.ev, Opd.taken, aun, params, AVal.cells, AVal.known, entries, ASt.push, loadAt, mk, ASt.get, getL, results, result, ASt.trunc, underL, AVal.under, Own.under, storeAt, mayPutL, mayPut, splice, ASt.set, setL, fill, zeros, List.map_cons, List.map_nil, List.nil_append, List.append_nil, Option.map_some, Option.bind_some]
    | cons x l =>
      have ha2 : accV (x :: l ++ [cK i]) = .sl (((x :: l).map AVal.str) ++ [.str (cK i)]) (l.length + 1 + 1) (.mine 1) := by simp [accV]
      rw [ha2]
      have hu : underL 0 ((x :: l).map AVal.str) = true := under_strs _ _
      simp only [List.length_cons] at hb
      have hx : accV (x :: l) = .sl ((x :: l).map AVal.str) (l.length + 1) (.mine 1) := rfl
      rw [hx]
      have hcl : ((x :: l).map AVal.str).length = l.length + 1 := by simp
      generalize (x :: l).map AVal.str = c at hu hcl ⊢
      simp [allLoop, f71, kid5, hlt, hlt2, hst, hu0, hK, hw, aappend, newCells, base, hb, hcl, vv, Frame.put, keepF, Opd.ev, Opd.taken, aun, params, AVal.cells, AVal.known, entries, ASt.push, loadAt, mk, ASt.get, getL, results, result, ASt.trunc, underL, AVal.under, Own.under, storeAt, mayPutL, mayPut, splice, ASt.set, setL, fill, zeros, List.map_cons, List.map_nil, List.nil_append, List.append_nil, Option.map_some, Option.bind_some]

theorem w_71 (hkv : ndV kv = some ks) {cK : Nat → List UInt8} (hK : ∀ i : Nat, i < ks.length → Call C2 85 [.agg [.int .i64 d], .agg (kid5 k t p e kv), .int .i64 i] ⟨0, []⟩ = some (.str (cK i), ⟨0, []⟩))
    (hlen : (Lib.join ((List.range' 0 ks.length).map cK) [44, 32]).length ≤ limit) :
    Call C2 71 [.agg [.int .i64 d], .agg (kid5 k t p e kv)] ⟨0, []⟩ = some (.str (Lib.join ((List.range' 0 ks.length).map cK) [44, 32]), ⟨0, []⟩) := by
  have hn : ks.length ≤ limit := by
    rcases ndV_cases hkv with ⟨_, rfl⟩ | ⟨cs, n, o, rfl, ho, hcl, hn, hL⟩
    · exact Nat.zero_le _
    · have := ndL_length hL; omega
  have hL := all_loop (e := e) (p := p) hkv hn hK ks.length 0 [] (by omega) rfl
  have hj : ∀ s, Call C2 483 [match accV ((List.range' 0 ks.length).map cK) with | .sl c m _ => .sl c m .none | v => v, .str [44, 32]] s = some (.str (Lib.join ((List.range' 0 ks.length).map cK) [44, 32]), s) := fun s => by
    have hl2 : ((List.range' 0 ks.length).map cK).length ≤ limit := by simpa using hn
    generalize (List.range' 0 ks.length).map cK = l at hlen hl2 ⊢
    cases l with
    | nil => exact join_nils _ _
    | cons x l => exact join_call (x :: l) .none [44, 32] hl2 hlen s
  have hst := ndV_strip hkv
  have hrd := ndV_read hkv
  have hlen2 : (kv = .nils ∧ ks.length = 0) ∨ ∃ cs o, kv = .sl cs ks.length o := by
    rcases ndV_cases hkv with ⟨rfl, rfl⟩ | ⟨cs, n, o, rfl, ho, hcl, hn, hL⟩
    · exact .inl ⟨rfl, rfl⟩
    · have hn2 : n = ks.length := by have := ndL_length hL; omega
      subst hn2
      exact .inr ⟨cs, o, rfl⟩
  have hus : ∀ l : List (List UInt8), underL 0 (l.map AVal.str) = true := fun l => under_strs 0 l
  simp only [List.nil_append] at hL
  have hacc : ∀ l, accV l = .nils ∨ ∃ m : Nat, accV l = .sl (l.map AVal.str) m (.mine 1) := fun l => by cases l <;> simp [accV]
  have hacc := hacc ((List.range' 0 ks.length).map cK)
  have hus := hus ((List.range' 0 ks.length).map cK)
  generalize Lib.join ((List.range' 0 ks.length).map cK) [44, 32] = R at hj ⊢
  generalize accV ((List.range' 0 ks.length).map cK) = av at hL hj hacc
  generalize ((List.range' 0 ks.length).map cK).map AVal.str = cc at hacc hus
  have hL0 : accV [] = .nils := rfl
  simp [allLoop, f71, hL0, kid5] at hL
  rw [run_of (af := f71) rfl rfl, v_run rfl]
  rcases hlen2 with ⟨rfl, h0⟩ | ⟨cs, o, rfl⟩
  · rw [h0] at hL
    simp only [Int.ofNat_zero] at hL
    rcases hacc with rfl | ⟨m, rfl⟩
    · simp only at hj
      simp [f71, kid5, hL, hj, vv, Frame.put, keepF, Opd.ev, Opd.taken, aun, params, AVal.cells, AVal.known, entries, ASt.push, loadAt, mk, ASt.get, getL, results, result, ASt.trunc, underL, AVal.under, Own.under, storeAt, mayPutL, mayPut, splice, ASt.set, setL, fill, zeros, List.map_cons, List.map_nil, List.nil_append, List.append_nil, Option.map_some, Option.bind_some]
    · simp only at hj
      simp [f71, kid5, hL, hj, hus, vv, Frame.put, keepF, Opd.ev, Opd.taken, aun, params, AVal.cells, AVal.known, entries, ASt.push, loadAt, mk, ASt.get, getL, results, result, ASt.trunc, underL, AVal.under, Own.under, storeAt, mayPutL, mayPut, splice, ASt.set, setL, fill, zeros, List.map_cons, List.map_nil, List.nil_append, List.append_nil, Option.map_some, Option.bind_some]
  · rcases hacc with rfl | ⟨m, rfl⟩
    · simp only at hj
      simp [f71, kid5, hL, hj, hst, hrd, vv, Frame.put, keepF, Opd.ev, Opd.taken, aun, params, AVal.cells, AVal.known, entries, ASt.push, loadAt, mk, ASt.get, getL, results, result, ASt.trunc, underL, AVal.under, Own.under, storeAt, mayPutL, mayPut, splice, ASt.set, setL, fill, zeros, List.map_cons, List.map_nil, List.nil_append, List.append_nil, Option.map_some, Option.bind_some]
    · simp only at hj
      simp [f71, kid5, hL, hj, hus, hst, hrd, vv, Frame.put, keepF, Opd.ev, Opd.taken, aun, params, AVal.cells, AVal.known, entries, ASt.push, loadAt, mk, ASt.get, getL, results, result, ASt.trunc, underL, AVal.under, Own.under, storeAt, mayPutL, mayPut, splice, ASt.set, setL, fill, zeros, List.map_cons, List.map_nil, List.nil_append, List.append_nil, Option.map_some, Option.bind_some]
end
end Go.Proofs.YtdhgdpokdhjanaaGreat.Abs
/- The printer's blocks and programs, and its table. -/
namespace Go.Proofs.YtdhgdpokdhjanaaGreat.Abs
open Go

theorem write_at {r : Nat} {x l : List UInt8} {s : ASt} (hg : s.get r = some (.bld x)) (hl : x.length + l.length ≤ limit) : Call C2 56 [.ref r 0, .str l] s = some (.tup [.int .i64 l.length, .nili], s.set r (.bld (x ++ l))) := by
  rw [Call_eq]
  show extWrite [.ref r 0, .str l] s = _
  simp only [extWrite, hg, if_pos hl]
theorem string_at {r : Nat} {x : List UInt8} {s : ASt} (hg : s.get r = some (.bld x)) (hl : x ≠ []) : Call C2 55 [.ref r 0] s = some (.str x, s) := by
  rw [Call_eq]
  show extString [.ref r 0] s = _
  cases x with
  | nil => exact absurd rfl hl
  | cons a x => simp only [extString, hg, List.isEmpty_cons, Bool.false_eq_true, if_false]

section
variable {k : Int} {t : List UInt8} {p e : Int} {kv : AVal} {ks : List Nd} {oa ob : AObj} {d : Nat}

/-! ### Blocks -/

def blkLoop : ACode := match f76.code with
  | .seq _ (.seq _ (.seq _ (.seq _ (.seq (.seq _ (.block _ (.loop b _))) _)))) => b
  | _ => .bad

def lineT (d : Nat) (s : List UInt8) : List UInt8 := [indT (d + 1), s, [10]].flatten

theorem blk_loop {cs : List AVal} {o : Own} (hkv : ndV (.sl cs ks.length o) = some ks) (hd : d + 1 ≤ 1000000) {S : Nat → List UInt8} (hS : ∀ i, i < ks.length → KidW 97 ((d + 1 : Nat) : Int) ks (.sl cs ks.length o) i (S i)) (kc : List AVal) :
    ∀ (r i : Nat) (x : List UInt8), i + r = ks.length → (x ++ (List.range' i r).flatMap fun i => lineT d (S i)).length ≤ limit →
      Loop C2 blkLoop [2, 5, 6, 15, 16, 17] [(2, .ref 2 0), (5, .ref 4 0), (6, .ref 5 0), (15, .sl cs ks.length o), (16, .int .i64 ks.length), (17, .int .i64 i)] ⟨6, [.bld x, .cells [.int .i64 (d + 1 : Nat)], .cells kc, .cells [.int .i64 d], oa, ob]⟩ =
        some (.exit 0, [(2, .ref 2 0), (5, .ref 4 0), (6, .ref 5 0), (15, .sl cs ks.length o), (16, .int .i64 ks.length), (17, .int .i64 ks.length), (18, .bool false)],
          ⟨6, [.bld (x ++ (List.range' i r).flatMap fun i => lineT d (S i)), .cells [.int .i64 (d + 1 : Nat)], .cells kc, .cells [.int .i64 d], oa, ob]⟩)
  | 0, i, x, h, hlen => by
    have : i = ks.length := by omega
    subst this
    rw [Loop_eq, v_stepLoop]
    simp [blkLoop, f76, vv, Frame.put, keepF, Opd.ev, Opd.taken, aun, params, AVal.cells, AVal.known, entries, ASt.push, loadAt, mk, ASt.get, getL, results, result, ASt.trunc, underL, AVal.under, Own.under, storeAt, mayPutL, mayPut, splice, ASt.set, setL, fill, zeros, List.map_cons, List.map_nil, List.nil_append, List.append_nil, Option.map_some, Option.bind_some]
  | r + 1, i, x, h, hlen => by
    have hlt : i < ks.length := by omega
    have hlt2 : (i : Int) < (ks.length : Int) := by omega
    obtain ⟨cs', o', k1, t1, p1, e1, kv1, ks1, hq, ho, hu, hn, hnd1, hkv1, hcut1⟩ := nd_at hkv hlt
    cases hq
    have hc := hS i hlt _ _ _ _ _ _ _ _ rfl hnd1 hkv1 hcut1
    have hw : IntKind.wrap .i64 ((i : Int) + 1) = ((i + 1 : Nat) : Int) := by
      have hlim : limit = 2 ^ 36 := rfl
      rw [wrap_i64 (by omega) (by omega)]; rfl
    simp only [List.range'_succ, List.flatMap_cons] at hlen ⊢
    have ih := blk_loop hkv hd hS kc r (i + 1) (x ++ lineT d (S i)) (by omega) (by rw [List.append_assoc]; exact hlen)
    rw [← List.append_assoc, ← ih]
    have h1 := ndV_one hkv1
    have h2 := ndV_strip hkv1
    have h3 : kv1.under 7 = true := under_mono (Nat.zero_le _) (ndV_under _ hkv1)
    have h30 : kv1.under 0 = true := ndV_under _ hkv1
    have h4 : underL 6 cs = true := underL_mono (Nat.zero_le _) hu
    have hind := ind_call (d + 1) hd
    have hl1 : (lineT d (S i)).length ≤ limit := by
      simp only [List.length_append] at hlen
      omega
    have hl2 : x.length + (lineT d (S i)).length ≤ limit := by
      simp only [List.length_append] at hlen
      omega
    unfold lineT at hl1 hl2 ⊢
    have hp := put_call [indT (d + 1), S i, [10]] (le_limit (by simp)) hl1
    generalize [indT (d + 1), S i, [10]].flatten = R at hp hl2 ⊢
    simp only [List.map_cons, List.map_nil, List.length_cons, List.length_nil, Nat.reduceAdd, Nat.zero_add] at hp
    simp only [kid5] at hc hcut1
    have hwr := write_at (r := 5) (x := x) (l := R) (s := ⟨7, [.cells [.int .i64 k1, .str t1, .int .i64 p1, .int .i64 e1, kv1], .bld x, .cells [.int .i64 (d + 1 : Nat)], .cells kc, .cells [.int .i64 d], oa, ob]⟩) rfl hl2
    simp only [ASt.set, setL] at hwr
    simp only [Nat.reduceEqDiff, if_false, if_true] at hwr
    rw [Loop_eq, v_stepLoop]
    generalize ((d + 1 : Nat) : Int) = D at *
    rcases ho with rfl | rfl <;> simp [blkLoop, f76, kid5, hlt, hlt2, hcut1, hc, h1, h2, h3, h30, h4, hw, hind, hp, hwr, vv, Frame.put, keepF, Opd.ev, Opd.taken, aun, params, AVal.cells, AVal.known, entries, ASt.push, loadAt, mk, ASt.get, getL, results, result, ASt.trunc, underL, AVal.under, Own.under, storeAt, mayPutL, mayPut, splice, ASt.set, setL, fill, zeros, List.map_cons, List.map_nil, List.nil_append, List.append_nil, Option.map_some, Option.bind_some]

theorem blk_nils {x : List UInt8} {s : ASt} : Loop C2 blkLoop [2, 5, 6, 15, 16, 17] [(2, .ref 2 0), (5, .ref 4 0), (6, .ref 5 0), (15, .nils), (16, .int .i64 0), (17, .int .i64 0)] s =
    some (.exit 0, [(2, .ref 2 0), (5, .ref 4 0), (6, .ref 5 0), (15, .nils), (16, .int .i64 0), (17, .int .i64 0), (18, .bool false)], s) := by
  rw [Loop_eq, v_stepLoop]
  simp [blkLoop, f76, vv, Frame.put, keepF, Opd.ev, Opd.taken, aun, params, AVal.cells, AVal.known, entries, ASt.push, loadAt, mk, ASt.get, getL, results, result, ASt.trunc, underL, AVal.under, Own.under, storeAt, mayPutL, mayPut, splice, ASt.set, setL, fill, zeros, List.map_cons, List.map_nil, List.nil_append, List.append_nil, Option.map_some, Option.bind_some]

theorem u_76 (hkv : ndV kv = some ks) (hd : d + 1 ≤ 1000000) {S : Nat → List UInt8} (hS : ∀ i, i < ks.length → KidW 97 ((d + 1 : Nat) : Int) ks kv i (S i))
    (hlen : ([123, 10] ++ (((List.range' 0 ks.length).flatMap fun i => lineT d (S i)) ++ [indT d, [125]].flatten)).length ≤ limit) :
    Call C2 76 [.agg [.int .i64 d], .agg (kid5 k t p e kv)] ⟨2, [oa, ob]⟩ = some (.str ([123, 10] ++ (((List.range' 0 ks.length).flatMap fun i => lineT d (S i)) ++ [indT d, [125]].flatten)), ⟨2, [oa, ob]⟩) := by
  have hw : IntKind.wrap .i64 ((d : Int) + 1) = ((d + 1 : Nat) : Int) := by
    rw [wrap_i64 (by omega) (by omega)]; rfl
  have hind := ind_call d (by omega)
  have hl1 : ([indT d, [125]].flatten).length ≤ limit := by
    simp only [List.length_append] at hlen
    omega
  have hp := put_call [indT d, [125]] (le_limit (by simp)) hl1
  have hl3 : ([123, 10] ++ (List.range' 0 ks.length).flatMap fun i => lineT d (S i)).length + ([indT d, [125]].flatten).length ≤ limit := by
    simp only [List.length_append] at hlen ⊢
    omega
  simp only [List.map_cons, List.map_nil, List.length_cons, List.length_nil, Nat.reduceAdd, Nat.zero_add] at hp
  have hwr1 := write_at (r := 5) (x := []) (l := [123, 10]) (s := ⟨6, [.bld [], .cells [.int .i64 (d + 1 : Nat)], .cells (kid5 k t p e kv), .cells [.int .i64 d], oa, ob]⟩) rfl (by decide)
  have hwr2 := write_at (r := 5) (x := [123, 10] ++ (List.range' 0 ks.length).flatMap fun i => lineT d (S i)) (l := [indT d, [125]].flatten) (s := ⟨6, [.bld ([123, 10] ++ (List.range' 0 ks.length).flatMap fun i => lineT d (S i)), .cells [.int .i64 (d + 1 : Nat)], .cells (kid5 k t p e kv), .cells [.int .i64 d], oa, ob]⟩) rfl hl3
  have hst2 := string_at (r := 5) (x := ([123, 10] ++ (List.range' 0 ks.length).flatMap fun i => lineT d (S i)) ++ [indT d, [125]].flatten) (s := ⟨6, [.bld (([123, 10] ++ (List.range' 0 ks.length).flatMap fun i => lineT d (S i)) ++ [indT d, [125]].flatten), .cells [.int .i64 (d + 1 : Nat)], .cells (kid5 k t p e kv), .cells [.int .i64 d], oa, ob]⟩) rfl (by simp)
  simp only [ASt.set, setL, Nat.reduceEqDiff, if_true, List.nil_append] at hwr1 hwr2
  rw [← List.append_assoc]
  rcases ndV_cases hkv with ⟨rfl, rfl⟩ | ⟨cs, n, o, rfl, ho, hcl, hn, hL⟩
  · have hL := blk_nils (x := [123, 10]) (s := ⟨6, [.bld [123, 10], .cells [.int .i64 (d + 1 : Nat)], .cells (kid5 k t p e .nils), .cells [.int .i64 d], oa, ob]⟩)
    simp only [List.length_nil, List.range'_zero, List.flatMap_nil, List.append_nil] at hwr2 hst2 ⊢
    generalize [indT d, [125]].flatten = Z at *
    generalize [123, 10] ++ Z = Q at *
    generalize ((d + 1 : Nat) : Int) = D at *
    simp [blkLoop, f76, kid5] at hL
    simp only [kid5] at hwr1 hwr2 hst2
    rw [run_of (af := f76) rfl rfl, v_run rfl]
    simp [f76, kid5, hw, hL, hwr1, hwr2, hst2, hind, hp, vv, Frame.put, keepF, Opd.ev, Opd.taken, aun, params, AVal.cells, AVal.known, entries, ASt.push, loadAt, mk, ASt.get, getL, results, result, ASt.trunc, underL, AVal.under, Own.under, storeAt, mayPutL, mayPut, splice, ASt.set, setL, fill, zeros, List.map_cons, List.map_nil, List.nil_append, List.append_nil, Option.map_some, Option.bind_some]
  · have hn2 : n = ks.length := by have := ndL_length hL; omega
    subst hn2
    have hL2 := blk_loop (oa := oa) (ob := ob) hkv hd hS (kid5 k t p e (.sl cs ks.length o)) ks.length 0 [123, 10] (by omega) (by simp only [List.length_append] at hlen ⊢; omega)
    generalize [indT d, [125]].flatten = Z at *
    generalize ([123, 10] ++ (List.range' 0 ks.length).flatMap fun i => lineT d (S i)) = Y at *
    generalize Y ++ Z = Q at *
    generalize ((d + 1 : Nat) : Int) = D at *
    simp [blkLoop, f76, kid5] at hL2
    simp only [kid5] at hwr1 hwr2 hst2
    rw [run_of (af := f76) rfl rfl, v_run rfl]
    rcases ho with rfl | rfl <;> simp [f76, kid5, hw, hL2, hwr1, hwr2, hst2, hind, hp, vv, Frame.put, keepF, Opd.ev, Opd.taken, aun, params, AVal.cells, AVal.known, entries, ASt.push, loadAt, mk, ASt.get, getL, results, result, ASt.trunc, underL, AVal.under, Own.under, storeAt, mayPutL, mayPut, splice, ASt.set, setL, fill, zeros, List.map_cons, List.map_nil, List.nil_append, List.append_nil, Option.map_some, Option.bind_some]

/-! ### Programs -/

def prgLoop : ACode := match f91.code with
  | .seq _ (.seq _ (.seq (.seq _ (.block _ (.loop b _))) _)) => b
  | _ => .bad

theorem prg_loop {cs : List AVal} {o : Own} {D : Int} (hkv : ndV (.sl cs ks.length o) = some ks) {S : Nat → List UInt8} (hS : ∀ i, i < ks.length → KidW 97 D ks (.sl cs ks.length o) i (S i)) (kc : List AVal) :
    ∀ (r i : Nat) (x : List UInt8), i + r = ks.length → (x ++ (List.range' i r).flatMap fun i => [S i, [10]].flatten).length ≤ limit →
      Loop C2 prgLoop [2, 5, 9, 10, 11] [(2, .ref 2 0), (5, .str x), (9, .sl cs ks.length o), (10, .int .i64 ks.length), (11, .int .i64 i)] ⟨4, [.cells kc, .cells [.int .i64 D], oa, ob]⟩ =
        some (.exit 0, [(2, .ref 2 0), (5, .str (x ++ (List.range' i r).flatMap fun i => [S i, [10]].flatten)), (9, .sl cs ks.length o), (10, .int .i64 ks.length), (11, .int .i64 ks.length), (12, .bool false)], ⟨4, [.cells kc, .cells [.int .i64 D], oa, ob]⟩)
  | 0, i, x, h, hlen => by
    have : i = ks.length := by omega
    subst this
    rw [Loop_eq, v_stepLoop]
    simp [prgLoop, f91, vv, Frame.put, keepF, Opd.ev, Opd.taken, aun, params, AVal.cells, AVal.known, entries, ASt.push, loadAt, mk, ASt.get, getL, results, result, ASt.trunc, underL, AVal.under, Own.under, storeAt, mayPutL, mayPut, splice, ASt.set, setL, fill, zeros, List.map_cons, List.map_nil, List.nil_append, List.append_nil, Option.map_some, Option.bind_some]
  | r + 1, i, x, h, hlen => by
    have hlt : i < ks.length := by omega
    have hlt2 : (i : Int) < (ks.length : Int) := by omega
    obtain ⟨cs', o', k1, t1, p1, e1, kv1, ks1, hq, ho, hu, hn, hnd1, hkv1, hcut1⟩ := nd_at hkv hlt
    cases hq
    have hc := hS i hlt _ _ _ _ _ _ _ _ rfl hnd1 hkv1 hcut1
    have hw : IntKind.wrap .i64 ((i : Int) + 1) = ((i + 1 : Nat) : Int) := by
      have hlim : limit = 2 ^ 36 := rfl
      rw [wrap_i64 (by omega) (by omega)]; rfl
    simp only [List.range'_succ, List.flatMap_cons] at hlen ⊢
    have ih := prg_loop (D := D) hkv hS kc r (i + 1) (x ++ [S i, [10]].flatten) (by omega) (by rw [List.append_assoc]; exact hlen)
    rw [← List.append_assoc, ← ih]
    have h1 := ndV_one hkv1
    have h2 := ndV_strip hkv1
    have h3 : kv1.under 5 = true := under_mono (Nat.zero_le _) (ndV_under _ hkv1)
    have h30 : kv1.under 0 = true := ndV_under _ hkv1
    have h4 : underL 4 cs = true := underL_mono (Nat.zero_le _) hu
    have hl1 : ([S i, [10]].flatten).length ≤ limit := by
      simp only [List.length_append] at hlen
      omega
    have hl2 : x.length + ([S i, [10]].flatten).length ≤ limit := by
      simp only [List.length_append] at hlen
      omega
    have hp := put_call [S i, [10]] (le_limit (by simp)) hl1
    generalize [S i, [10]].flatten = R at hp hl2 ⊢
    simp only [List.map_cons, List.map_nil, List.length_cons, List.length_nil, Nat.reduceAdd, Nat.zero_add] at hp
    simp only [kid5] at hc hcut1
    rw [Loop_eq, v_stepLoop]
    rcases ho with rfl | rfl <;> simp [prgLoop, f91, kid5, hlt, hlt2, hcut1, hc, h1, h2, h3, h30, h4, hw, hp, hl2, fz_str, vv, Frame.put, keepF, Opd.ev, Opd.taken, aun, params, AVal.cells, AVal.known, entries, ASt.push, loadAt, mk, ASt.get, getL, results, result, ASt.trunc, underL, AVal.under, Own.under, storeAt, mayPutL, mayPut, splice, ASt.set, setL, fill, zeros, List.map_cons, List.map_nil, List.nil_append, List.append_nil, Option.map_some, Option.bind_some]

theorem prg_nils {x : List UInt8} {s : ASt} : Loop C2 prgLoop [2, 5, 9, 10, 11] [(2, .ref 2 0), (5, .str x), (9, .nils), (10, .int .i64 0), (11, .int .i64 0)] s =
    some (.exit 0, [(2, .ref 2 0), (5, .str x), (9, .nils), (10, .int .i64 0), (11, .int .i64 0), (12, .bool false)], s) := by
  rw [Loop_eq, v_stepLoop]
  simp [prgLoop, f91, vv, Frame.put, keepF, Opd.ev, Opd.taken, aun, params, AVal.cells, AVal.known, entries, ASt.push, loadAt, mk, ASt.get, getL, results, result, ASt.trunc, underL, AVal.under, Own.under, storeAt, mayPutL, mayPut, splice, ASt.set, setL, fill, zeros, List.map_cons, List.map_nil, List.nil_append, List.append_nil, Option.map_some, Option.bind_some]

theorem u_91 (hkv : ndV kv = some ks) {D : Int} {S : Nat → List UInt8} (hS : ∀ i, i < ks.length → KidW 97 D ks kv i (S i))
    (hlen : ((List.range' 0 ks.length).flatMap fun i => [S i, [10]].flatten).length ≤ limit) :
    Call C2 91 [.agg [.int .i64 D], .agg (kid5 k t p e kv)] ⟨2, [oa, ob]⟩ = some (.str ((List.range' 0 ks.length).flatMap fun i => [S i, [10]].flatten), ⟨2, [oa, ob]⟩) := by
  rcases ndV_cases hkv with ⟨rfl, rfl⟩ | ⟨cs, n, o, rfl, ho, hcl, hn, hL⟩
  · have hL := prg_nils (x := []) (s := ⟨4, [.cells (kid5 k t p e .nils), .cells [.int .i64 D], oa, ob]⟩)
    simp only [List.length_nil, List.range'_zero, List.flatMap_nil]
    simp [prgLoop, f91, kid5] at hL
    rw [run_of (af := f91) rfl rfl, v_run rfl]
    simp [f91, kid5, hL, vv, Frame.put, keepF, Opd.ev, Opd.taken, aun, params, AVal.cells, AVal.known, entries, ASt.push, loadAt, mk, ASt.get, getL, results, result, ASt.trunc, underL, AVal.under, Own.under, storeAt, mayPutL, mayPut, splice, ASt.set, setL, fill, zeros, List.map_cons, List.map_nil, List.nil_append, List.append_nil, Option.map_some, Option.bind_some]
  · have hn2 : n = ks.length := by have := ndL_length hL; omega
    subst hn2
    have hL2 := prg_loop (oa := oa) (ob := ob) (D := D) hkv hS (kid5 k t p e (.sl cs ks.length o)) ks.length 0 [] (by omega) (by simpa using hlen)
    rw [List.nil_append] at hL2
    generalize ((List.range' 0 ks.length).flatMap fun i => [S i, [10]].flatten) = Y at *
    simp [prgLoop, f91, kid5] at hL2
    rw [run_of (af := f91) rfl rfl, v_run rfl]
    rcases ho with rfl | rfl <;> simp [f91, kid5, hL2, vv, Frame.put, keepF, Opd.ev, Opd.taken, aun, params, AVal.cells, AVal.known, entries, ASt.push, loadAt, mk, ASt.get, getL, results, result, ASt.trunc, underL, AVal.under, Own.under, storeAt, mayPutL, mayPut, splice, ASt.set, setL, fill, zeros, List.map_cons, List.map_nil, List.nil_append, List.append_nil, Option.map_some, Option.bind_some]

/-! ### The table -/

def wtab : List (Int × Nat) := [(2, 91), (3, 92), (4, 94), (5, 90), (7, 94), (8, 78), (9, 96), (10, 72), (11, 76), (12, 81), (13, 74), (14, 79), (15, 88), (16, 80), (17, 93), (18, 73), (19, 82), (20, 96), (21, 84), (22, 89), (23, 86), (24, 96), (25, 96), (26, 87), (27, 77), (28, 95), (29, 75)]
def lookW (k : Int) : List (Int × Nat) → Option Nat
  | [] => none
  | (x, s) :: r => if k = x then some s else lookW k r
theorem find_w (k : Int) : ∀ l : List (Int × Nat), Abs.find .int (.int .i64 k) (l.map fun p => .int .i64 p.1) (l.map fun p => .fn p.2 [] []) = some ((lookW k l).map fun f => .fn f [] [])
  | [] => rfl
  | (x, v) :: es => by
    have ih := find_w k es
    simp only [List.map_cons, Abs.find, keq, lookW]
    by_cases h : k = x
    · simp [h]
    · have : decide (k = x) = false := by simpa using h
      simp only [if_true, this, if_neg h]
      exact ih
def writersV : AVal := .imap (wtab.map fun p : Int × Nat => AVal.int .i64 p.1) (wtab.map fun p : Int × Nat => AVal.fn p.2 [] [])
theorem writers_call : Call C2 347 [] ⟨0, []⟩ = some (writersV, ⟨0, []⟩) :=
  (know_holds (x := ⟨347, [], writersV⟩) all_nil (k := 10) (by kernel_rfl) : Fact.holds C2 ⟨347, [], writersV⟩)

theorem write_of (hkv : ndV kv = some ks) {D : Int} {f : Nat} (hf : lookW k wtab = some f) {s : List UInt8}
    (h : Call C2 f [.agg [.int .i64 D], .agg (kid5 k t p e kv)] ⟨2, [.cells (kid5 k t p e kv), .cells [.int .i64 D]]⟩ = some (.str s, ⟨2, [.cells (kid5 k t p e kv), .cells [.int .i64 D]]⟩)) :
    Call C2 97 [.agg [.int .i64 D], .agg (kid5 k t p e kv)] ⟨0, []⟩ = some (.str s, ⟨0, []⟩) := by
  have hst := ndV_strip hkv
  have hw := writers_call
  have hfi := find_w k wtab
  rw [hf] at hfi
  unfold writersV at hw
  generalize (wtab.map fun p => AVal.int .i64 p.1) = KS at hw hfi
  generalize (wtab.map fun p => AVal.fn p.2 [] []) = VS at hw hfi
  simp only [kid5] at h
  rw [run_of (af := f97) rfl rfl, v_run rfl]
  simp [f97, kid5, hst, hw, hfi, h, vv, Frame.put, keepF, Opd.ev, Opd.taken, aun, params, AVal.cells, AVal.known, entries, ASt.push, loadAt, mk, ASt.get, getL, results, result, ASt.trunc, underL, AVal.under, Own.under, storeAt, mayPutL, mayPut, splice, ASt.set, setL, fill, zeros, List.map_cons, List.map_nil, List.nil_append, List.append_nil, Option.map_some, Option.bind_some]

end
end Go.Proofs.YtdhgdpokdhjanaaGreat.Abs
/- The texts of the kids. -/
namespace Go.Proofs.YtdhgdpokdhjanaaGreat.Abs
open Go

/-! ### Shapes -/

theorem kidsOK_get {k : Int} : ∀ {r : List Nd} {j : Nat}, kidsOK k j r = true → ∀ i, i < r.length → ∃ q, kpOf k (j + i) = some q ∧ q.test (r.getD i nd0).kind = true ∧ (r.getD i nd0).ok = true
  | [], _, _, _, hi => by simp at hi
  | n :: r, j, h, 0, _ => by
    simp only [kidsOK, Bool.and_eq_true] at h
    obtain ⟨⟨⟨h1, h2⟩, h3⟩, h4⟩ := h
    split at h1
    · rename_i q hq
      exact ⟨q, hq, h1, h3⟩
    · cases h1
  | n :: r, j, h, i + 1, hi => by
    simp only [kidsOK, Bool.and_eq_true] at h
    have := kidsOK_get h.2 i (by simpa using hi)
    rw [show j + (i + 1) = j + 1 + i from by omega]
    simpa using this
theorem ok_parts {k : Int} {t : List UInt8} {ks : List Nd} (h : (Nd.mk k t ks).ok = true) : ∃ s, lookK k shp = some s ∧ s.tx.test t = true ∧ (match s.list with
    | some _ => decide (s.most ≤ ks.length)
    | none => decide (ks.length = s.kids.length)) = true ∧ kidsOK k 0 ks = true := by
  cases hs : lookK k shp with
  | none =>
    rw [ok_mk] at h
    simp only [nodeOK, hs, Bool.false_and] at h
    cases h
  | some s =>
    rw [ok_is hs] at h
    simp only [Bool.and_eq_true] at h
    exact ⟨s, rfl, h.1.1, h.1.2, h.2⟩
theorem kp_expr {c : Int} (h : KP.test .expr c = true) : 20 ≤ c ∧ c ≤ 29 := of_decide_eq_true h
theorem kp_stmt {c : Int} (h : KP.test .stmt c = true) : 12 ≤ c ∧ c ≤ 19 := of_decide_eq_true h
theorem kp_typ {c : Int} (h : KP.test .typ c = true) : c = 9 ∨ c = 10 := of_decide_eq_true h
theorem kp_place {c : Int} (h : KP.test .place c = true) : c = 20 ∨ c = 21 ∨ c = 22 := of_decide_eq_true h
theorem kp_one1 {a c : Int} (h : KP.test (.one [a]) c = true) : c = a := by simpa [KP.test] using h
theorem kp_one2 {a b c : Int} (h : KP.test (.one [a, b]) c = true) : c = a ∨ c = b := by simpa [KP.test] using h
theorem kp_opt {q : KP} {c : Int} (h : KP.test (.opt q) c = true) : c = 0 ∨ q.test c = true := by simpa [KP.test] using h
theorem ok_kid {k : Int} {t : List UInt8} {ks : List Nd} (h : (Nd.mk k t ks).ok = true) {i : Nat} (hi : i < ks.length) : ∃ q, kpOf k i = some q ∧ q.test (ks.getD i nd0).kind = true := by
  obtain ⟨s, _, _, _, hk⟩ := ok_parts h
  obtain ⟨q, h1, h2, _⟩ := kidsOK_get hk i hi
  rw [Nat.zero_add] at h1
  exact ⟨q, h1, h2⟩
theorem ok_sub {k : Int} {t : List UInt8} {ks : List Nd} (h : (Nd.mk k t ks).ok = true) {i : Nat} (hi : i < ks.length) : (ks.getD i nd0).ok = true := by
  obtain ⟨s, _, _, _, hk⟩ := ok_parts h
  obtain ⟨q, _, _, h3⟩ := kidsOK_get hk i hi
  exact h3
theorem getD_mem {ks : List Nd} {i : Nat} (hi : i < ks.length) : ks.getD i nd0 ∈ ks := by
  rw [List.getD_eq_getElem?_getD, List.getElem?_eq_getElem hi]
  exact List.getElem_mem hi

/-! ### Lists of texts -/

theorem txtL_range (ks : List Nd) (d : Nat) : txtL ks d = (List.range' 0 ks.length).map fun i => txt (ks.getD i nd0) d := by
  apply List.ext_getElem
  · simp [txtL_length]
  · intro i h1 h2
    have h3 : i < ks.length := by simpa [txtL_length] using h1
    have := txtL_get ks d i h3
    rw [List.getD_eq_getElem?_getD, List.getElem?_eq_getElem h1] at this
    simpa using this
theorem kidsT_map (k : Int) (t : List UInt8) : ∀ (r : List Nd) (q : List (List UInt8)) (j : Nat), r.length = q.length → kidsT k t j r q = (List.range' j r.length).map fun i => kidT k t (i : Nat) (r.getD (i - j) nd0) (q.getD (i - j) [])
  | [], [], _, _ => rfl
  | n :: r, s :: q, j, h => by
    have ih := kidsT_map k t r q (j + 1) (by simpa using h)
    simp only [kidsT, ih, List.length_cons, List.range'_succ, List.map_cons, Nat.sub_self, List.getD_cons_zero, List.cons.injEq, true_and]
    apply List.map_congr_left
    intro i hi
    have hi := List.mem_range'_1.1 hi
    have : i - j = (i - (j + 1)) + 1 := by omega
    rw [this]
    simp
  | [], _ :: _, _, h => by simp at h
  | _ :: _, [], _, h => by simp at h
theorem allT_range (k : Int) (t : List UInt8) (ks : List Nd) (d : Nat) : allT k t ks (txtL ks d) = Lib.join ((List.range' 0 ks.length).map fun i => kidT k t (i : Nat) (ks.getD i nd0) (txt (ks.getD i nd0) d)) [44, 32] := by
  unfold allT
  rw [kidsT_map k t ks (txtL ks d) 0 (txtL_length ks d).symm]
  congr 1
  apply List.map_congr_left
  intro i hi
  have hi := List.mem_range'_1.1 hi
  simp only [Nat.sub_zero]
  rw [txtL_get ks d i (by omega)]
theorem flatMap_range (ks : List Nd) (d : Nat) (g : List UInt8 → List UInt8) : (txtL ks d).flatMap g = (List.range' 0 ks.length).flatMap fun i => g (txt (ks.getD i nd0) d) := by
  rw [txtL_range, List.flatMap_map]

theorem tail_len {sep : List UInt8} {x : List UInt8} : ∀ {l : List (List UInt8)}, x ∈ l → x.length ≤ (Lib.joinTail sep l).length
  | y :: l, h => by
    unfold Lib.joinTail
    simp only [List.map_cons, List.flatten_cons, List.length_append]
    rcases List.mem_cons.1 h with rfl | h
    · omega
    · have := tail_len (sep := sep) h
      unfold Lib.joinTail at this
      omega
theorem join_len {sep : List UInt8} {x : List UInt8} {l : List (List UInt8)} (h : x ∈ l) : x.length ≤ (Lib.join l sep).length := by
  cases l with
  | nil => cases h
  | cons y l =>
    rw [Lib.join_cons]
    simp only [List.length_append]
    rcases List.mem_cons.1 h with rfl | h
    · omega
    · have := tail_len (sep := sep) h; omega
theorem flatMap_len {α : Type} {g : α → List UInt8} {x : α} : ∀ {l : List α}, x ∈ l → (g x).length ≤ (l.flatMap g).length
  | y :: l, h => by
    simp only [List.flatMap_cons, List.length_append]
    rcases List.mem_cons.1 h with rfl | h
    · omega
    · have := flatMap_len (g := g) h; omega
theorem kidT_len {k : Int} {t : List UInt8} {i : Int} {n : Nd} {s : List UInt8} : s.length ≤ (kidT k t i n s).length := by
  cases h : parB k t i n.kind n.text
  · rw [kidT_f h]; exact Nat.le_refl _
  · rw [kidT_t h]; simp only [List.length_append]; omega

/-! ### What is known of smaller trees -/

def WIH (N : Nat) : Prop := ∀ (k : Int) (t : List UInt8) (ks : List Nd) (d : Nat), (Nd.mk k t ks).all.length ≤ N → (Nd.mk k t ks).ok = true → k ≠ 0 → k ≠ 6 → d + N ≤ 1000000 → (txt (.mk k t ks) d).length ≤ limit →
  ∀ p e kv, ndV kv = some ks → Call C2 97 [.agg [.int .i64 d], .agg (kid5 k t p e kv)] ⟨0, []⟩ = some (.str (txt (.mk k t ks) d), ⟨0, []⟩)

section
variable {N : Nat} {k : Int} {t : List UInt8} {p e : Int} {kv : AVal} {ks : List Nd} {d : Nat}

theorem kwX (H : WIH N) (hN : (allL ks).length ≤ N) (hok : (Nd.mk k t ks).ok = true) {i : Nat} (hi : i < ks.length) (h0 : (ks.getD i nd0).kind ≠ 0) (h6 : (ks.getD i nd0).kind ≠ 6) (hd : d + N ≤ 1000000) (hb : (txt (ks.getD i nd0) d).length ≤ limit) :
    KidW 97 d ks kv i (txt (ks.getD i nd0) d) := by
  intro cs o k2 t2 p2 e2 kv2 ks2 _ hnd hkv2 _
  have h1 := ok_sub hok hi
  have h2 := kids_len (getD_mem hi)
  rw [hnd] at h0 h6 hb h1 h2 ⊢
  exact H k2 t2 ks2 d (by omega) h1 h0 h6 hd hb p2 e2 kv2 hkv2
theorem kwK (H : WIH N) (hkv : ndV kv = some ks) (hN : (allL ks).length ≤ N) (hok : (Nd.mk k t ks).ok = true) {i : Nat} (hi : i < ks.length) (h0 : (ks.getD i nd0).kind ≠ 0) (h6 : (ks.getD i nd0).kind ≠ 6) (hd : d + N ≤ 1000000) (hb : (kidT k t i (ks.getD i nd0) (txt (ks.getD i nd0) d)).length ≤ limit) :
    Call C2 85 [.agg [.int .i64 d], .agg (kid5 k t p e kv), .int .i64 i] ⟨0, []⟩ = some (.str (kidT k t i (ks.getD i nd0) (txt (ks.getD i nd0) d)), ⟨0, []⟩) :=
  kid_w hkv hi (kwX H hN hok hi h0 h6 hd (Nat.le_trans kidT_len hb)) hb
theorem kwW (H : WIH N) (hN : (allL ks).length ≤ N) (hok : (Nd.mk k t ks).ok = true) {i : Nat} (hi : i < ks.length) (h6 : (ks.getD i nd0).kind ≠ 6) (hd : d + N ≤ 1000000) (hb : (wrT (ks.getD i nd0) (txt (ks.getD i nd0) d)).length ≤ limit) :
    KidW 98 d ks kv i (wrT (ks.getD i nd0) (txt (ks.getD i nd0) d)) := by
  intro cs o k2 t2 p2 e2 kv2 ks2 h1 hnd hkv2 hcut
  have hk := fun h0 hl => kwX (d := d) (kv := kv) H hN hok hi h0 h6 hd hl cs o k2 t2 p2 e2 kv2 ks2 h1 hnd hkv2 hcut
  rw [hnd] at hk hb ⊢
  refine w_98 hkv2 (fun h0 => hk h0 ?_) hb
  unfold wrT at hb
  have h0' : (Nd.mk k2 t2 ks2).kind ≠ 0 := h0
  simp only [h0', if_false, List.length_append] at hb
  omega
/-- All kids of a node. -/
theorem kwA (H : WIH N) (hkv : ndV kv = some ks) (hN : (allL ks).length ≤ N) (hok : (Nd.mk k t ks).ok = true) (hki : ∀ i, i < ks.length → (ks.getD i nd0).kind ≠ 0 ∧ (ks.getD i nd0).kind ≠ 6) (hd : d + N ≤ 1000000) (hb : (allT k t ks (txtL ks d)).length ≤ limit) :
    Call C2 71 [.agg [.int .i64 d], .agg (kid5 k t p e kv)] ⟨0, []⟩ = some (.str (allT k t ks (txtL ks d)), ⟨0, []⟩) := by
  rw [allT_range] at hb ⊢
  refine w_71 hkv (fun i hi => kwK H hkv hN hok hi (hki i hi).1 (hki i hi).2 hd ?_) hb
  refine Nat.le_trans (join_len ?_) hb
  exact List.mem_map.2 ⟨i, List.mem_range'_1.2 (by omega), rfl⟩
theorem list_kinds {q : KP} (hok : (Nd.mk k t ks).ok = true) (hq : ∀ i, kpOf k i = some q) : ∀ i, i < ks.length → q.test (ks.getD i nd0).kind = true := fun i hi => by
  obtain ⟨q', h1, h2⟩ := ok_kid hok hi
  rw [hq] at h1
  cases h1
  exact h2
end
end Go.Proofs.YtdhgdpokdhjanaaGreat.Abs
