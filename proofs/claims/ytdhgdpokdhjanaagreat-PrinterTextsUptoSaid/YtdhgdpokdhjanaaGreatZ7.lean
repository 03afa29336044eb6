/- The reference's printer, kind by kind; partly written by a program (mkref.py). -/
import Derived.Test.YtdhgdpokdhjanaaGreatZ6
set_option linter.unusedSimpArgs false
set_option linter.unusedVariables false
namespace Go.Proofs.YtdhgdpokdhjanaaGreat.Abs
open Go

section
variable {k : Int} {t : List UInt8} {p e d : Int} {kv : AVal} {ks : List Nd}

/-- What the reference makes of a kid. -/
def KidR (f : Nat) (ks : List Nd) (kv : AVal) (i : Nat) (s : List UInt8) : Prop := ∀ cs o k2 t2 p2 e2 kv2 ks2, kv = .sl cs ks.length o → ks.getD i nd0 = .mk k2 t2 ks2 → ndV kv2 = some ks2 → cut cs (i * 5) 5 = some (kid5 k2 t2 p2 e2 kv2) →
  Call C2 f [.agg (kid5 k2 t2 p2 e2 kv2)] ⟨0, []⟩ = some (.str s, ⟨0, []⟩)
def KidD (f : Nat) (d : Int) (ks : List Nd) (kv : AVal) (i : Nat) (s : List UInt8) : Prop := ∀ cs o k2 t2 p2 e2 kv2 ks2, kv = .sl cs ks.length o → ks.getD i nd0 = .mk k2 t2 ks2 → ndV kv2 = some ks2 → cut cs (i * 5) 5 = some (kid5 k2 t2 p2 e2 kv2) →
  Call C2 f [.agg (kid5 k2 t2 p2 e2 kv2), .int .i64 d] ⟨0, []⟩ = some (.str s, ⟨0, []⟩)

theorem kid_r (hkv : ndV kv = some ks) {i : Nat} (hi : i < ks.length) {s : List UInt8} (hw : KidR 236 ks kv i s) (hlen : (kidT k t i (ks.getD i nd0) s).length ≤ limit) :
    Call C2 231 [.agg (kid5 k t p e kv), .int .i64 i] ⟨0, []⟩ = some (.str (kidT k t i (ks.getD i nd0) s), ⟨0, []⟩) := by
  obtain ⟨cs, o, k2, t2, p2, e2, kv2, ks2, rfl, ho, hu, hn, hnd, hkv2, hcut⟩ := nd_at hkv hi
  have hc := hw _ _ _ _ _ _ _ _ rfl hnd hkv2 hcut
  have hp := (par_call (k := k) (t := t) (p := p) (e := e) hkv i k2 t2 p2 e2 hkv2).2
  have hu2 := ndV_under _ hkv2
  rw [hnd] at hlen ⊢
  simp only [kid5] at hc hp hcut
  rw [run_of (af := f231) rfl rfl, v_run rfl]
  have hi2 : (i : Int) < (ks.length : Int) := by omega
  cases hb : parB k t i k2 t2
  · rw [hb] at hp
    rw [kidT_f (n := .mk k2 t2 ks2) hb]
    rcases ho with rfl | rfl <;> simp [f231, kid5, hi2, hi, hcut, hc, hp, hu, hu2, vv, Frame.put, keepF, Opd.ev, Opd.taken, aun, params, AVal.cells, AVal.known, entries, ASt.push, loadAt, mk, ASt.get, getL, results, result, ASt.trunc, underL, AVal.under, Own.under, storeAt, mayPutL, mayPut, splice, ASt.set, setL, fill, zeros, List.map_cons, List.map_nil, List.nil_append, List.append_nil, Option.map_some, Option.bind_some]
  · rw [hb] at hp
    rw [kidT_t (n := .mk k2 t2 ks2) hb] at hlen ⊢
    simp only [List.length_append, List.length_cons, List.length_nil] at hlen
    have l1 : s.length + 1 ≤ limit := by omega
    have l2 : s.length + 1 + 1 ≤ limit := by omega
    have l3 : 1 + s.length ≤ limit := by omega
    rcases ho with rfl | rfl <;> simp [f231, kid5, hi2, hi, hcut, hc, hp, hu, hu2, l1, l2, l3, vv, Frame.put, keepF, Opd.ev, Opd.taken, aun, params, AVal.cells, AVal.known, entries, ASt.push, loadAt, mk, ASt.get, getL, results, result, ASt.trunc, underL, AVal.under, Own.under, storeAt, mayPutL, mayPut, splice, ASt.set, setL, fill, zeros, List.map_cons, List.map_nil, List.nil_append, List.append_nil, Option.map_some, Option.bind_some]

theorem typed_r (hkv : ndV kv = some ks) {s : List UInt8} (hw : k ≠ 0 → Call C2 236 [.agg (kid5 k t p e kv)] ⟨0, []⟩ = some (.str s, ⟨0, []⟩)) (hlen : (wrT (.mk k t ks) s).length ≤ limit) :
    Call C2 237 [.agg (kid5 k t p e kv)] ⟨0, []⟩ = some (.str (wrT (.mk k t ks) s), ⟨0, []⟩) := by
  have hst := ndV_strip hkv
  have hu0 := ndV_under _ hkv
  unfold wrT at hlen ⊢
  simp only [Nd.kind] at hlen ⊢
  by_cases hk : k = 0
  · subst hk
    simp only [if_true]
    rw [run_of (af := f237) rfl rfl, v_run rfl]
    simp [f237, kid5, vv, Frame.put, keepF, Opd.ev, Opd.taken, aun, params, AVal.cells, AVal.known, entries, ASt.push, loadAt, mk, ASt.get, getL, results, result, ASt.trunc, underL, AVal.under, Own.under, storeAt, mayPutL, mayPut, splice, ASt.set, setL, fill, zeros, List.map_cons, List.map_nil, List.nil_append, List.append_nil, Option.map_some, Option.bind_some]
  · simp only [hk, if_false] at hlen ⊢
    have hw := hw hk
    simp only [List.length_append, List.length_cons, List.length_nil] at hlen
    have l1 : s.length + 1 + 1 ≤ limit := by omega
    have l2 : 2 + s.length ≤ limit := by omega
    simp only [kid5] at hw
    rw [run_of (af := f237) rfl rfl, v_run rfl]
    simp [f237, kid5, hst, hu0, hk, hw, l1, l2, vv, Frame.put, keepF, Opd.ev, Opd.taken, aun, params, AVal.cells, AVal.known, entries, ASt.push, loadAt, mk, ASt.get, getL, results, result, ASt.trunc, underL, AVal.under, Own.under, storeAt, mayPutL, mayPut, splice, ASt.set, setL, fill, zeros, List.map_cons, List.map_nil, List.nil_append, List.append_nil, Option.map_some, Option.bind_some]

/-! ### Lists -/

def lstLoop : ACode := match f233.code with
  | .seq _ (.seq _ (.seq (.seq _ (.block _ (.loop b _))) _)) => b
  | _ => .bad

theorem joinTail_snoc (sep x : List UInt8) : ∀ l : List (List UInt8), Lib.joinTail sep (l ++ [x]) = Lib.joinTail sep l ++ (sep ++ x)
  | [] => by simp [Lib.joinTail]
  | y :: l => by
    have := joinTail_snoc sep x l
    unfold Lib.joinTail at this ⊢
    simp only [List.cons_append, List.map_cons, List.flatten_cons, this, List.append_assoc]
theorem join_snoc (sep x y : List UInt8) (l : List (List UInt8)) : Lib.join (y :: l ++ [x]) sep = Lib.join (y :: l) sep ++ (sep ++ x) := by
  rw [List.cons_append, Lib.join_cons, Lib.join_cons, joinTail_snoc, List.append_assoc]

theorem lst_loop (hkv : ndV kv = some ks) {n : Nat} (hn : n ≤ limit) (hlenV : (kv = .nils ∧ n = 0) ∨ ∃ cs o, (o = .none ∨ o = .exact) ∧ underL 0 cs = true ∧ kv = .sl cs n o) {cK : Nat → List UInt8} (hK : ∀ i : Nat, i < n → Call C2 231 [.agg (kid5 k t p e kv), .int .i64 i] ⟨0, []⟩ = some (.str (cK i), ⟨0, []⟩)) :
    ∀ (r i : Nat) (acc : List (List UInt8)), i + r = n → acc.length = i → (Lib.join (acc ++ (List.range' i r).map cK) [44, 32]).length ≤ limit →
      Loop C2 lstLoop [1, 3, 4] [(1, .ref 0 0), (3, .str (Lib.join acc [44, 32])), (4, .int .i64 i)] ⟨1, [.cells (kid5 k t p e kv)]⟩ =
        some (.exit 0, [(1, .ref 0 0), (3, .str (Lib.join (acc ++ (List.range' i r).map cK) [44, 32])), (4, .int .i64 n), (9, .bool false)], ⟨1, [.cells (kid5 k t p e kv)]⟩)
  | 0, i, acc, h, ha, _ => by
    have : i = n := by omega
    subst this
    have hrd := ndV_read hkv
    have hst := ndV_strip hkv
    rw [Loop_eq, v_stepLoop]
    simp only [List.range', List.map_nil, List.append_nil]
    generalize Lib.join acc [44, 32] = av
    rcases hlenV with ⟨rfl, h0⟩ | ⟨cs, o, ho, hu, rfl⟩
    · subst h0
      simp [lstLoop, f233, kid5, vv, Frame.put, keepF, Opd.ev, Opd.taken, aun, params, AVal.cells, AVal.known, entries, ASt.push, loadAt, mk, ASt.get, getL, results, result, ASt.trunc, underL, AVal.under, Own.under, storeAt, mayPutL, mayPut, splice, ASt.set, setL, fill, zeros, List.map_cons, List.map_nil, List.nil_append, List.append_nil, Option.map_some, Option.bind_some]
    · rcases ho with rfl | rfl <;> simp [lstLoop, f233, kid5, hrd, hst, vv, Frame.put, keepF, Opd.ev, Opd.taken, aun, params, AVal.cells, AVal.known, entries, ASt.push, loadAt, mk, ASt.get, getL, results, result, ASt.trunc, underL, AVal.under, Own.under, storeAt, mayPutL, mayPut, splice, ASt.set, setL, fill, zeros, List.map_cons, List.map_nil, List.nil_append, List.append_nil, Option.map_some, Option.bind_some]
  | r + 1, i, acc, h, ha, hl => by
    have hlt : i < n := by omega
    have hlt2 : (i : Int) < (n : Int) := by omega
    have hw : IntKind.wrap .i64 ((i : Int) + 1) = ((i + 1 : Nat) : Int) := by
      have hlim : limit = 2 ^ 36 := rfl
      rw [wrap_i64 (by omega) (by omega)]; rfl
    simp only [List.range'_succ, List.map_cons] at hl ⊢
    rw [show acc ++ cK i :: (List.range' (i + 1) r).map cK = (acc ++ [cK i]) ++ (List.range' (i + 1) r).map cK from by simp] at hl ⊢
    have ih := lst_loop hkv hn hlenV hK r (i + 1) (acc ++ [cK i]) (by omega) (by simp [ha]) hl
    have hK := hK i hlt
    have hst := ndV_strip hkv
    have hu0 := ndV_under _ hkv
    have hrd := ndV_read hkv
    have hb : (Lib.join (acc ++ [cK i]) [44, 32]).length ≤ limit := by
      refine Nat.le_trans ?_ hl
      cases acc with
      | nil =>
        rw [List.nil_append, List.singleton_append, Lib.join_one, Lib.join_cons]
        simp only [List.length_append]
        omega
      | cons x l =>
        rw [List.cons_append, List.cons_append, Lib.join_cons, Lib.join_cons]
        unfold Lib.joinTail
        simp only [List.length_append, List.map_append, List.flatten_append]
        omega
    rw [← ih, Loop_eq, v_stepLoop]
    clear ih hl
    simp only [kid5] at hK
    rcases hlenV with ⟨_, h0⟩ | ⟨cs, o, ho, hu, rfl⟩
    · omega
    cases acc with
    | nil =>
      simp only [List.length_nil] at ha
      subst ha
      rw [List.nil_append, Lib.join_one] at hb ⊢
      rw [Lib.join_nil]
      simp only [Int.ofNat_zero] at hK hw hlt2
      have w1 : IntKind.wrap .i64 1 = 1 := rfl
      rcases ho with rfl | rfl <;> simp [lstLoop, f233, kid5, hlt, hlt2, hu, hK, hw, hb, w1, vv, Frame.put, keepF, Opd.ev, Opd.taken, aun, params, AVal.cells, AVal.known, entries, ASt.push, loadAt, mk, ASt.get, getL, results, result, ASt.trunc, underL, AVal.under, Own.under, storeAt, mayPutL, mayPut, splice, ASt.set, setL, fill, zeros, List.map_cons, List.map_nil, List.nil_append, List.append_nil, Option.map_some, Option.bind_some]
    | cons x l =>
      rw [join_snoc] at hb ⊢
      have hi0 : (0 : Int) < (i : Int) := by simp only [List.length_cons] at ha; omega
      have hi1 : 0 < i := by omega
      generalize Lib.join (x :: l) [44, 32] = J at hb ⊢
      simp only [List.length_append, List.length_cons, List.length_nil] at hb
      have l1 : J.length + 1 + 1 ≤ limit := by omega
      have l2 : J.length + 2 ≤ limit := by omega
      have l3 : J.length + 2 + (cK i).length ≤ limit := by omega
      have l4 : J.length + (1 + 1) + (cK i).length ≤ limit := by omega
      have l5 : J.length + ((cK i).length + 1 + 1) ≤ limit := by omega
      have l6 : (J ++ [44, 32]).length + (cK i).length ≤ limit := by simp only [List.length_append, List.length_cons, List.length_nil]; omega
      rcases ho with rfl | rfl <;> simp [lstLoop, f233, kid5, hlt, hlt2, hi0, hi1, hu, hK, hw, l1, l2, l3, l4, l5, l6, vv, Frame.put, keepF, Opd.ev, Opd.taken, aun, params, AVal.cells, AVal.known, entries, ASt.push, loadAt, mk, ASt.get, getL, results, result, ASt.trunc, underL, AVal.under, Own.under, storeAt, mayPutL, mayPut, splice, ASt.set, setL, fill, zeros, List.map_cons, List.map_nil, List.nil_append, List.append_nil, Option.map_some, Option.bind_some]

theorem list_r (hkv : ndV kv = some ks) {cK : Nat → List UInt8} (hK : ∀ i : Nat, i < ks.length → Call C2 231 [.agg (kid5 k t p e kv), .int .i64 i] ⟨0, []⟩ = some (.str (cK i), ⟨0, []⟩))
    (hlen : (Lib.join ((List.range' 0 ks.length).map cK) [44, 32]).length ≤ limit) :
    Call C2 233 [.agg (kid5 k t p e kv)] ⟨0, []⟩ = some (.str (Lib.join ((List.range' 0 ks.length).map cK) [44, 32]), ⟨0, []⟩) := by
  have hn : ks.length ≤ limit := by
    rcases ndV_cases hkv with ⟨_, rfl⟩ | ⟨cs, n, o, rfl, ho, hcl, hn, hL⟩
    · exact Nat.zero_le _
    · have := ndL_length hL; omega
  have hlen2 : (kv = .nils ∧ ks.length = 0) ∨ ∃ cs o, (o = .none ∨ o = .exact) ∧ underL 0 cs = true ∧ kv = .sl cs ks.length o := by
    rcases ndV_cases hkv with ⟨rfl, rfl⟩ | ⟨cs, n, o, rfl, ho, hcl, hn, hL⟩
    · exact .inl ⟨rfl, rfl⟩
    · have hn2 : n = ks.length := by have := ndL_length hL; omega
      subst hn2
      exact .inr ⟨cs, o, ho, ndL_under _ hL, rfl⟩
  have hL := lst_loop (e := e) (p := p) hkv hn hlen2 hK ks.length 0 [] (by omega) rfl (by simpa using hlen)
  rw [List.nil_append, Lib.join_nil] at hL
  generalize Lib.join ((List.range' 0 ks.length).map cK) [44, 32] = R at hL ⊢
  have hst := ndV_strip hkv
  simp [lstLoop, f233, kid5] at hL
  rw [run_of (af := f233) rfl rfl, v_run rfl]
  simp [f233, kid5, hL, vv, Frame.put, keepF, Opd.ev, Opd.taken, aun, params, AVal.cells, AVal.known, entries, ASt.push, loadAt, mk, ASt.get, getL, results, result, ASt.trunc, underL, AVal.under, Own.under, storeAt, mayPutL, mayPut, splice, ASt.set, setL, fill, zeros, List.map_cons, List.map_nil, List.nil_append, List.append_nil, Option.map_some, Option.bind_some]

/-! ### Words and others -/

theorem r_word (hk : k = 9 ∨ k = 20 ∨ k = 24 ∨ k = 25) : Call C2 236 [.agg (kid5 k t p e kv)] ⟨0, []⟩ = some (.str t, ⟨0, []⟩) := by
  rw [run_of (af := f236) rfl rfl, v_run rfl]
  rcases hk with rfl | rfl | rfl | rfl <;> simp [f236, kid5, vv, Frame.put, keepF, Opd.ev, Opd.taken, aun, params, AVal.cells, AVal.known, entries, ASt.push, loadAt, mk, ASt.get, getL, results, result, ASt.trunc, underL, AVal.under, Own.under, storeAt, mayPutL, mayPut, splice, ASt.set, setL, fill, zeros, List.map_cons, List.map_nil, List.nil_append, List.append_nil, Option.map_some, Option.bind_some]
theorem r_28 (hkv : ndV kv = some ks) (ht : t = [110, 111, 116] ∨ t = [45]) {c0 : List UInt8} (h0 : Call C2 231 [.agg (kid5 28 t p e kv), .int .i64 0] ⟨0, []⟩ = some (.str c0, ⟨0, []⟩))
    (hlen : (if t = [110, 111, 116] then [[110, 111, 116, 32], c0].flatten else [t, c0].flatten).length ≤ limit) :
    Call C2 236 [.agg (kid5 28 t p e kv)] ⟨0, []⟩ = some (.str (if t = [110, 111, 116] then [[110, 111, 116, 32], c0].flatten else [t, c0].flatten), ⟨0, []⟩) := by
  have hst := ndV_strip hkv
  have hu0 := ndV_under _ hkv
  simp only [kid5] at h0
  rcases ht with rfl | rfl
  · simp only [if_true, List.flatten_cons, List.flatten_nil, List.length_append, List.length_cons, List.length_nil] at hlen
    have l1 : c0.length + 1 + 1 + 1 + 1 ≤ limit := by omega
    have l2 : 4 + c0.length ≤ limit := by omega
    rw [run_of (af := f236) rfl rfl, v_run rfl]
    simp [f236, kid5, hst, hu0, h0, l1, l2, vv, Frame.put, keepF, Opd.ev, Opd.taken, aun, params, AVal.cells, AVal.known, entries, ASt.push, loadAt, mk, ASt.get, getL, results, result, ASt.trunc, underL, AVal.under, Own.under, storeAt, mayPutL, mayPut, splice, ASt.set, setL, fill, zeros, List.map_cons, List.map_nil, List.nil_append, List.append_nil, Option.map_some, Option.bind_some]
  · have hne : ¬ ([45] : List UInt8) = [110, 111, 116] := by decide
    simp only [hne, if_false, List.flatten_cons, List.flatten_nil, List.length_append, List.length_cons, List.length_nil] at hlen ⊢
    have l1 : c0.length + 1 ≤ limit := by omega
    have l2 : 1 + c0.length ≤ limit := by omega
    rw [run_of (af := f236) rfl rfl, v_run rfl]
    simp [f236, kid5, hst, hu0, h0, l1, l2, vv, Frame.put, keepF, Opd.ev, Opd.taken, aun, params, AVal.cells, AVal.known, entries, ASt.push, loadAt, mk, ASt.get, getL, results, result, ASt.trunc, underL, AVal.under, Own.under, storeAt, mayPutL, mayPut, splice, ASt.set, setL, fill, zeros, List.map_cons, List.map_nil, List.nil_append, List.append_nil, Option.map_some, Option.bind_some]

set_option maxHeartbeats 4000000 in
theorem r_17 (hkv : ndV kv = some ks) (hi : 0 < ks.length) {c0 : List UInt8} (h0 : (ks.getD 0 nd0).kind ≠ 0 → Call C2 231 [.agg (kid5 17 t p e kv), .int .i64 0] ⟨0, []⟩ = some (.str c0, ⟨0, []⟩))
    (hlen : (if (ks.getD 0 nd0).kind = 0 then [114, 101, 116, 117, 114, 110, 59] else [[114, 101, 116, 117, 114, 110, 32], c0, [59]].flatten).length ≤ limit) :
    Call C2 235 [.agg (kid5 17 t p e kv), .int .i64 d] ⟨0, []⟩ = some (.str (if (ks.getD 0 nd0).kind = 0 then [114, 101, 116, 117, 114, 110, 59] else [[114, 101, 116, 117, 114, 110, 32], c0, [59]].flatten), ⟨0, []⟩) := by
  obtain ⟨cs, o, k0, t0, p0, e0, kv0, ks0, rfl, ho, hu, hn, hnd, hkv0, hcut⟩ := nd_at hkv (i := 0) hi
  have hm0 : (0 : Int) < (ks.length : Int) := by omega
  have hcut3 : cut cs 0 1 = some [.int .i64 k0] := by have := cut_kind hcut; simpa using this
  rw [hnd] at h0 hlen ⊢
  simp only [Nd.kind] at h0 hlen ⊢
  by_cases hk : k0 = 0
  · subst hk
    simp only [if_true]
    rw [run_of (af := f235) rfl rfl, v_run rfl]
    rcases ho with rfl | rfl <;> simp [f235, kid5, hu, hi, hm0, hcut3, vv, Frame.put, keepF, Opd.ev, Opd.taken, aun, params, AVal.cells, AVal.known, entries, ASt.push, loadAt, mk, ASt.get, getL, results, result, ASt.trunc, underL, AVal.under, Own.under, storeAt, mayPutL, mayPut, splice, ASt.set, setL, fill, zeros, List.map_cons, List.map_nil, List.nil_append, List.append_nil, Option.map_some, Option.bind_some]
  · simp only [hk, if_false, List.flatten_cons, List.flatten_nil, List.length_append, List.length_cons, List.length_nil] at hlen ⊢
    have h0 := h0 hk
    simp only [kid5] at h0
    have b1 : ([114, 101, 116, 117, 114, 110, 32] : List UInt8).length + c0.length ≤ limit := by simp only [List.length_cons, List.length_nil]; omega
    have b2 : (([114, 101, 116, 117, 114, 110, 32] : List UInt8) ++ c0).length + ([59] : List UInt8).length ≤ limit := by simp only [List.length_append, List.length_cons, List.length_nil]; omega
    rw [run_of (af := f235) rfl rfl, v_run rfl]
    rcases ho with rfl | rfl <;> simp only [f235, kid5, hu, hi, hm0, hcut3, hk, h0, b1, b2, vv, Frame.put, keepF, Opd.ev, Opd.taken, aun, params, AVal.cells, AVal.known, entries, ASt.push, loadAt, mk, ASt.get, getL, results, result, ASt.trunc, underL, AVal.under, Own.under, storeAt, mayPutL, mayPut, splice, ASt.set, setL, fill, zeros, List.map_cons, List.map_nil, List.nil_append, List.append_nil, Option.map_some, Option.bind_some, Nat.reduceEqDiff, if_true, if_false, reduceIte, Nat.reduceAdd, Nat.reduceSub, Nat.reduceMul, decide_true, decide_false, List.getElem?_cons_zero, List.getElem?_cons_succ, Bool.and_true, Bool.true_and, Bool.and_self, Nat.zero_add, Nat.add_zero, Int.toNat_zero, Int.toNat_one, Nat.zero_mul, Nat.one_mul, Int.le_refl, true_and, and_true, and_self, Bool.false_eq_true, false_or, or_false, Nat.sub_zero, List.drop_succ_cons, List.drop_zero, Bool.not_true, Bool.not_false, Int.reduceLE, Int.reduceLT, Int.reduceEq, Int.reduceToNat, Int.ofNat_zero] <;> try simp

set_option maxHeartbeats 4000000 in
theorem r_14 (hkv : ndV kv = some ks) (hi : 2 < ks.length) {c0 x1 x2 : List UInt8} (h0 : Call C2 231 [.agg (kid5 14 t p e kv), .int .i64 0] ⟨0, []⟩ = some (.str c0, ⟨0, []⟩))
    (h1 : KidD 228 d ks kv 1 x1) (hk2 : (ks.getD 2 nd0).kind = 0 ∨ (ks.getD 2 nd0).kind = 11 ∨ (ks.getD 2 nd0).kind = 14) (h2 : (ks.getD 2 nd0).kind = 11 → KidD 228 d ks kv 2 x2) (h3 : (ks.getD 2 nd0).kind = 14 → KidD 235 d ks kv 2 x2)
    (hlen : (if (ks.getD 2 nd0).kind = 0 then [[105, 102, 32], c0, [32], x1].flatten else [[[105, 102, 32], c0, [32], x1].flatten, [32, 101, 108, 115, 101, 32], x2].flatten).length ≤ limit) :
    Call C2 235 [.agg (kid5 14 t p e kv), .int .i64 d] ⟨0, []⟩ = some (.str (if (ks.getD 2 nd0).kind = 0 then [[105, 102, 32], c0, [32], x1].flatten else [[[105, 102, 32], c0, [32], x1].flatten, [32, 101, 108, 115, 101, 32], x2].flatten), ⟨0, []⟩) := by
  obtain ⟨cs, o, k1, t1, p1, e1, kv1, ks1, rfl, ho, hu, hn, hnd1, hkv1, hcut1⟩ := nd_at hkv (i := 1) (by omega)
  obtain ⟨cs', o', k2, t2, p2, e2, kv2, ks2, hq, ho', hu', hn', hnd2, hkv2, hcut2⟩ := nd_at hkv (i := 2) (by omega)
  cases hq
  have hc1 := h1 _ _ _ _ _ _ _ _ rfl hnd1 hkv1 hcut1
  have hm1 : (1 : Int) < (ks.length : Int) := by omega
  have hm2 : (2 : Int) < (ks.length : Int) := by omega
  have hl1 : 1 < ks.length := by omega
  have hz1 : cut cs 5 5 = some (kid5 k1 t1 p1 e1 kv1) := hcut1
  have hz2 : cut cs 10 5 = some (kid5 k2 t2 p2 e2 kv2) := hcut2
  have hy2 : cut cs 10 1 = some [.int .i64 k2] := cut_kind hcut2
  have hv1 := ndV_under _ hkv1
  have hv2 := ndV_under _ hkv2
  have h2' : k2 = 11 → Call C2 228 [.agg (kid5 k2 t2 p2 e2 kv2), .int .i64 d] ⟨0, []⟩ = some (.str x2, ⟨0, []⟩) := fun hk => h2 (by rw [hnd2]; exact hk) _ _ _ _ _ _ _ _ rfl hnd2 hkv2 hcut2
  have h3' : k2 = 14 → Call C2 235 [.agg (kid5 k2 t2 p2 e2 kv2), .int .i64 d] ⟨0, []⟩ = some (.str x2, ⟨0, []⟩) := fun hk => h3 (by rw [hnd2]; exact hk) _ _ _ _ _ _ _ _ rfl hnd2 hkv2 hcut2
  rw [hnd2] at hk2 hlen ⊢
  simp only [Nd.kind] at hk2 hlen ⊢
  simp only [kid5] at h0 hc1 hz1 hz2
  rcases hk2 with rfl | rfl | rfl
  · simp only [if_true, List.flatten_cons, List.flatten_nil, List.length_append, List.length_cons, List.length_nil] at hlen ⊢
    have b1 : ([105, 102, 32] : List UInt8).length + c0.length ≤ limit := by simp only [List.length_cons, List.length_nil]; omega
    have b2 : (([105, 102, 32] : List UInt8) ++ c0).length + ([32] : List UInt8).length ≤ limit := by simp only [List.length_append, List.length_cons, List.length_nil]; omega
    have b3 : (([105, 102, 32] : List UInt8) ++ c0 ++ [32]).length + x1.length ≤ limit := by simp only [List.length_append, List.length_cons, List.length_nil]; omega
    rw [run_of (af := f235) rfl rfl, v_run rfl]
    rcases ho with rfl | rfl <;> simp only [f235, kid5, hu, hi, hm1, hm2, hl1, hz1, hz2, hy2, hv1, b1, b2, b3, h0, hc1, vv, Frame.put, keepF, Opd.ev, Opd.taken, aun, params, AVal.cells, AVal.known, entries, ASt.push, loadAt, mk, ASt.get, getL, results, result, ASt.trunc, underL, AVal.under, Own.under, storeAt, mayPutL, mayPut, splice, ASt.set, setL, fill, zeros, List.map_cons, List.map_nil, List.nil_append, List.append_nil, Option.map_some, Option.bind_some, Nat.reduceEqDiff, if_true, if_false, reduceIte, Nat.reduceAdd, Nat.reduceSub, Nat.reduceMul, decide_true, decide_false, List.getElem?_cons_zero, List.getElem?_cons_succ, Bool.and_true, Bool.true_and, Bool.and_self, Nat.zero_add, Nat.add_zero, Int.toNat_zero, Int.toNat_one, Nat.zero_mul, Nat.one_mul, Int.le_refl, true_and, and_true, and_self, Bool.false_eq_true, false_or, or_false, Nat.sub_zero, List.drop_succ_cons, List.drop_zero, Bool.not_true, Bool.not_false, Int.reduceLE, Int.reduceLT, Int.reduceEq, Int.reduceToNat, Int.ofNat_zero] <;> try simp
  · have hne : ¬ (11 : Int) = 0 := by decide
    simp only [hne, if_false, List.flatten_cons, List.flatten_nil, List.length_append, List.length_cons, List.length_nil] at hlen ⊢
    have h2' := h2' rfl
    simp only [kid5] at h2'
    have b1 : ([105, 102, 32] : List UInt8).length + c0.length ≤ limit := by simp only [List.length_cons, List.length_nil]; omega
    have b2 : (([105, 102, 32] : List UInt8) ++ c0).length + ([32] : List UInt8).length ≤ limit := by simp only [List.length_append, List.length_cons, List.length_nil]; omega
    have b3 : (([105, 102, 32] : List UInt8) ++ c0 ++ [32]).length + x1.length ≤ limit := by simp only [List.length_append, List.length_cons, List.length_nil]; omega
    have b4 : (([105, 102, 32] : List UInt8) ++ c0 ++ [32] ++ x1).length + ([32, 101, 108, 115, 101, 32] : List UInt8).length ≤ limit := by simp only [List.length_append, List.length_cons, List.length_nil]; omega
    have b5 : (([105, 102, 32] : List UInt8) ++ c0 ++ [32] ++ x1 ++ [32, 101, 108, 115, 101, 32]).length + x2.length ≤ limit := by simp only [List.length_append, List.length_cons, List.length_nil]; omega
    rw [run_of (af := f235) rfl rfl, v_run rfl]
    rcases ho with rfl | rfl <;> simp only [f235, kid5, hu, hi, hm1, hm2, hl1, hz1, hz2, hy2, hv1, b1, b2, b3, b4, b5, hv2, h0, hc1, h2', vv, Frame.put, keepF, Opd.ev, Opd.taken, aun, params, AVal.cells, AVal.known, entries, ASt.push, loadAt, mk, ASt.get, getL, results, result, ASt.trunc, underL, AVal.under, Own.under, storeAt, mayPutL, mayPut, splice, ASt.set, setL, fill, zeros, List.map_cons, List.map_nil, List.nil_append, List.append_nil, Option.map_some, Option.bind_some, Nat.reduceEqDiff, if_true, if_false, reduceIte, Nat.reduceAdd, Nat.reduceSub, Nat.reduceMul, decide_true, decide_false, List.getElem?_cons_zero, List.getElem?_cons_succ, Bool.and_true, Bool.true_and, Bool.and_self, Nat.zero_add, Nat.add_zero, Int.toNat_zero, Int.toNat_one, Nat.zero_mul, Nat.one_mul, Int.le_refl, true_and, and_true, and_self, Bool.false_eq_true, false_or, or_false, Nat.sub_zero, List.drop_succ_cons, List.drop_zero, Bool.not_true, Bool.not_false, Int.reduceLE, Int.reduceLT, Int.reduceEq, Int.reduceToNat, Int.ofNat_zero] <;> try simp
  · have hne : ¬ (14 : Int) = 0 := by decide
    simp only [hne, if_false, List.flatten_cons, List.flatten_nil, List.length_append, List.length_cons, List.length_nil] at hlen ⊢
    have h3' := h3' rfl
    simp only [kid5] at h3'
    have b1 : ([105, 102, 32] : List UInt8).length + c0.length ≤ limit := by simp only [List.length_cons, List.length_nil]; omega
    have b2 : (([105, 102, 32] : List UInt8) ++ c0).length + ([32] : List UInt8).length ≤ limit := by simp only [List.length_append, List.length_cons, List.length_nil]; omega
    have b3 : (([105, 102, 32] : List UInt8) ++ c0 ++ [32]).length + x1.length ≤ limit := by simp only [List.length_append, List.length_cons, List.length_nil]; omega
    have b4 : (([105, 102, 32] : List UInt8) ++ c0 ++ [32] ++ x1).length + ([32, 101, 108, 115, 101, 32] : List UInt8).length ≤ limit := by simp only [List.length_append, List.length_cons, List.length_nil]; omega
    have b5 : (([105, 102, 32] : List UInt8) ++ c0 ++ [32] ++ x1 ++ [32, 101, 108, 115, 101, 32]).length + x2.length ≤ limit := by simp only [List.length_append, List.length_cons, List.length_nil]; omega
    rw [run_of (af := f235) rfl rfl, v_run rfl]
    rcases ho with rfl | rfl <;> simp only [f235, kid5, hu, hi, hm1, hm2, hl1, hz1, hz2, hy2, hv1, b1, b2, b3, b4, b5, hv2, h0, hc1, h3', vv, Frame.put, keepF, Opd.ev, Opd.taken, aun, params, AVal.cells, AVal.known, entries, ASt.push, loadAt, mk, ASt.get, getL, results, result, ASt.trunc, underL, AVal.under, Own.under, storeAt, mayPutL, mayPut, splice, ASt.set, setL, fill, zeros, List.map_cons, List.map_nil, List.nil_append, List.append_nil, Option.map_some, Option.bind_some, Nat.reduceEqDiff, if_true, if_false, reduceIte, Nat.reduceAdd, Nat.reduceSub, Nat.reduceMul, decide_true, decide_false, List.getElem?_cons_zero, List.getElem?_cons_succ, Bool.and_true, Bool.true_and, Bool.and_self, Nat.zero_add, Nat.add_zero, Int.toNat_zero, Int.toNat_one, Nat.zero_mul, Nat.one_mul, Int.le_refl, true_and, and_true, and_self, Bool.false_eq_true, false_or, or_false, Nat.sub_zero, List.drop_succ_cons, List.drop_zero, Bool.not_true, Bool.not_false, Int.reduceLE, Int.reduceLT, Int.reduceEq, Int.reduceToNat, Int.ofNat_zero] <;> try simp

theorem r_29 (hkv : ndV kv = some ks) {cK0 cK1 : List UInt8} (hcK0 : Call C2 231 [.agg (kid5 29 t p e kv), .int .i64 0] ⟨0, []⟩ = some (.str cK0, ⟨0, []⟩)) (hcK1 : Call C2 231 [.agg (kid5 29 t p e kv), .int .i64 1] ⟨0, []⟩ = some (.str cK1, ⟨0, []⟩)) (hlen : [cK0, [32], t, [32], cK1].flatten.length ≤ limit) : Call C2 236 [.agg (kid5 29 t p e kv)] ⟨0, []⟩ = some (.str [cK0, [32], t, [32], cK1].flatten, ⟨0, []⟩) := by
  have hst := ndV_strip hkv
  have hu0 := ndV_under _ hkv
  simp only [kid5] at hcK0 hcK1
  simp only [List.flatten_cons, List.flatten_nil, List.length_append, List.length_cons, List.length_nil] at hlen
  rw [run_of (af := f236) rfl rfl, v_run rfl]
  have b1' : (cK0).length + ([32] : List UInt8).length ≤ limit := by simp only [List.length_append, List.length_cons, List.length_nil]; omega
  have b2' : (cK0 ++ [32]).length + (t : List UInt8).length ≤ limit := by simp only [List.length_append, List.length_cons, List.length_nil]; omega
  have b3' : (cK0 ++ [32] ++ t).length + ([32] : List UInt8).length ≤ limit := by simp only [List.length_append, List.length_cons, List.length_nil]; omega
  have b4' : (cK0 ++ [32] ++ t ++ [32]).length + (cK1 : List UInt8).length ≤ limit := by simp only [List.length_append, List.length_cons, List.length_nil]; omega
  (simp only [f236, kid5, b1', b2', b3', b4', hst, hu0, hcK0, hcK1, vv, Frame.put, keepF, Opd.ev, Opd.taken, aun, params, AVal.cells, AVal.known, entries, ASt.push, loadAt, mk, ASt.get, getL, results, result, ASt.trunc, underL, AVal.under, Own.under, storeAt, mayPutL, mayPut, splice, ASt.set, setL, fill, zeros, List.map_cons, List.map_nil, List.nil_append, List.append_nil, Option.map_some, Option.bind_some, Nat.reduceEqDiff, if_true, if_false, reduceIte, Nat.reduceAdd, Nat.reduceSub, Nat.reduceMul, decide_true, decide_false, List.getElem?_cons_zero, List.getElem?_cons_succ, Bool.and_true, Bool.true_and, Bool.and_self, Nat.zero_add, Nat.add_zero, Int.toNat_zero, Int.toNat_one, Nat.zero_mul, Nat.one_mul, Int.le_refl, true_and, and_true, and_self, Bool.false_eq_true, false_or, or_false, Nat.sub_zero, List.drop_succ_cons, List.drop_zero, Bool.not_true, Bool.not_false, Int.reduceLE, Int.reduceLT, Int.reduceEq, Int.reduceToNat, Int.ofNat_zero]; try simp)
theorem r_21 (hkv : ndV kv = some ks) {cK0 cK1 : List UInt8} (hcK0 : Call C2 231 [.agg (kid5 21 t p e kv), .int .i64 0] ⟨0, []⟩ = some (.str cK0, ⟨0, []⟩)) (hcK1 : Call C2 231 [.agg (kid5 21 t p e kv), .int .i64 1] ⟨0, []⟩ = some (.str cK1, ⟨0, []⟩)) (hlen : [cK0, [91], cK1, [93]].flatten.length ≤ limit) : Call C2 236 [.agg (kid5 21 t p e kv)] ⟨0, []⟩ = some (.str [cK0, [91], cK1, [93]].flatten, ⟨0, []⟩) := by
  have hst := ndV_strip hkv
  have hu0 := ndV_under _ hkv
  simp only [kid5] at hcK0 hcK1
  simp only [List.flatten_cons, List.flatten_nil, List.length_append, List.length_cons, List.length_nil] at hlen
  rw [run_of (af := f236) rfl rfl, v_run rfl]
  have b1' : (cK0).length + ([91] : List UInt8).length ≤ limit := by simp only [List.length_append, List.length_cons, List.length_nil]; omega
  have b2' : (cK0 ++ [91]).length + (cK1 : List UInt8).length ≤ limit := by simp only [List.length_append, List.length_cons, List.length_nil]; omega
  have b3' : (cK0 ++ [91] ++ cK1).length + ([93] : List UInt8).length ≤ limit := by simp only [List.length_append, List.length_cons, List.length_nil]; omega
  (simp only [f236, kid5, b1', b2', b3', hst, hu0, hcK0, hcK1, vv, Frame.put, keepF, Opd.ev, Opd.taken, aun, params, AVal.cells, AVal.known, entries, ASt.push, loadAt, mk, ASt.get, getL, results, result, ASt.trunc, underL, AVal.under, Own.under, storeAt, mayPutL, mayPut, splice, ASt.set, setL, fill, zeros, List.map_cons, List.map_nil, List.nil_append, List.append_nil, Option.map_some, Option.bind_some, Nat.reduceEqDiff, if_true, if_false, reduceIte, Nat.reduceAdd, Nat.reduceSub, Nat.reduceMul, decide_true, decide_false, List.getElem?_cons_zero, List.getElem?_cons_succ, Bool.and_true, Bool.true_and, Bool.and_self, Nat.zero_add, Nat.add_zero, Int.toNat_zero, Int.toNat_one, Nat.zero_mul, Nat.one_mul, Int.le_refl, true_and, and_true, and_self, Bool.false_eq_true, false_or, or_false, Nat.sub_zero, List.drop_succ_cons, List.drop_zero, Bool.not_true, Bool.not_false, Int.reduceLE, Int.reduceLT, Int.reduceEq, Int.reduceToNat, Int.ofNat_zero]; try simp)
theorem r_22 (hkv : ndV kv = some ks) {cK0 : List UInt8} (hcK0 : Call C2 231 [.agg (kid5 22 t p e kv), .int .i64 0] ⟨0, []⟩ = some (.str cK0, ⟨0, []⟩)) (hlen : [cK0, [46], t].flatten.length ≤ limit) : Call C2 236 [.agg (kid5 22 t p e kv)] ⟨0, []⟩ = some (.str [cK0, [46], t].flatten, ⟨0, []⟩) := by
  have hst := ndV_strip hkv
  have hu0 := ndV_under _ hkv
  simp only [kid5] at hcK0
  simp only [List.flatten_cons, List.flatten_nil, List.length_append, List.length_cons, List.length_nil] at hlen
  rw [run_of (af := f236) rfl rfl, v_run rfl]
  have b1' : (cK0).length + ([46] : List UInt8).length ≤ limit := by simp only [List.length_append, List.length_cons, List.length_nil]; omega
  have b2' : (cK0 ++ [46]).length + (t : List UInt8).length ≤ limit := by simp only [List.length_append, List.length_cons, List.length_nil]; omega
  (simp only [f236, kid5, b1', b2', hst, hu0, hcK0, vv, Frame.put, keepF, Opd.ev, Opd.taken, aun, params, AVal.cells, AVal.known, entries, ASt.push, loadAt, mk, ASt.get, getL, results, result, ASt.trunc, underL, AVal.under, Own.under, storeAt, mayPutL, mayPut, splice, ASt.set, setL, fill, zeros, List.map_cons, List.map_nil, List.nil_append, List.append_nil, Option.map_some, Option.bind_some, Nat.reduceEqDiff, if_true, if_false, reduceIte, Nat.reduceAdd, Nat.reduceSub, Nat.reduceMul, decide_true, decide_false, List.getElem?_cons_zero, List.getElem?_cons_succ, Bool.and_true, Bool.true_and, Bool.and_self, Nat.zero_add, Nat.add_zero, Int.toNat_zero, Int.toNat_one, Nat.zero_mul, Nat.one_mul, Int.le_refl, true_and, and_true, and_self, Bool.false_eq_true, false_or, or_false, Nat.sub_zero, List.drop_succ_cons, List.drop_zero, Bool.not_true, Bool.not_false, Int.reduceLE, Int.reduceLT, Int.reduceEq, Int.reduceToNat, Int.ofNat_zero]; try simp)
theorem r_23 (hkv : ndV kv = some ks) {cK0 : List UInt8} (hcK0 : Call C2 231 [.agg (kid5 23 t p e kv), .int .i64 0] ⟨0, []⟩ = some (.str cK0, ⟨0, []⟩)) (hlen : [[108, 101, 110, 40], cK0, [41]].flatten.length ≤ limit) : Call C2 236 [.agg (kid5 23 t p e kv)] ⟨0, []⟩ = some (.str [[108, 101, 110, 40], cK0, [41]].flatten, ⟨0, []⟩) := by
  have hst := ndV_strip hkv
  have hu0 := ndV_under _ hkv
  simp only [kid5] at hcK0
  simp only [List.flatten_cons, List.flatten_nil, List.length_append, List.length_cons, List.length_nil] at hlen
  rw [run_of (af := f236) rfl rfl, v_run rfl]
  have b1' : (([108, 101, 110, 40] : List UInt8)).length + (cK0 : List UInt8).length ≤ limit := by simp only [List.length_append, List.length_cons, List.length_nil]; omega
  have b2' : (([108, 101, 110, 40] : List UInt8) ++ cK0).length + ([41] : List UInt8).length ≤ limit := by simp only [List.length_append, List.length_cons, List.length_nil]; omega
  (simp only [f236, kid5, b1', b2', hst, hu0, hcK0, vv, Frame.put, keepF, Opd.ev, Opd.taken, aun, params, AVal.cells, AVal.known, entries, ASt.push, loadAt, mk, ASt.get, getL, results, result, ASt.trunc, underL, AVal.under, Own.under, storeAt, mayPutL, mayPut, splice, ASt.set, setL, fill, zeros, List.map_cons, List.map_nil, List.nil_append, List.append_nil, Option.map_some, Option.bind_some, Nat.reduceEqDiff, if_true, if_false, reduceIte, Nat.reduceAdd, Nat.reduceSub, Nat.reduceMul, decide_true, decide_false, List.getElem?_cons_zero, List.getElem?_cons_succ, Bool.and_true, Bool.true_and, Bool.and_self, Nat.zero_add, Nat.add_zero, Int.toNat_zero, Int.toNat_one, Nat.zero_mul, Nat.one_mul, Int.le_refl, true_and, and_true, and_self, Bool.false_eq_true, false_or, or_false, Nat.sub_zero, List.drop_succ_cons, List.drop_zero, Bool.not_true, Bool.not_false, Int.reduceLE, Int.reduceLT, Int.reduceEq, Int.reduceToNat, Int.ofNat_zero]; try simp)
theorem r_26 (hkv : ndV kv = some ks) {cA : List UInt8} (hcA : Call C2 233 [.agg (kid5 26 t p e kv)] ⟨0, []⟩ = some (.str cA, ⟨0, []⟩)) (hlen : [[91], cA, [93]].flatten.length ≤ limit) : Call C2 236 [.agg (kid5 26 t p e kv)] ⟨0, []⟩ = some (.str [[91], cA, [93]].flatten, ⟨0, []⟩) := by
  have hst := ndV_strip hkv
  have hu0 := ndV_under _ hkv
  simp only [kid5] at hcA
  simp only [List.flatten_cons, List.flatten_nil, List.length_append, List.length_cons, List.length_nil] at hlen
  rw [run_of (af := f236) rfl rfl, v_run rfl]
  have b1' : (([91] : List UInt8)).length + (cA : List UInt8).length ≤ limit := by simp only [List.length_append, List.length_cons, List.length_nil]; omega
  have b2' : (([91] : List UInt8) ++ cA).length + ([93] : List UInt8).length ≤ limit := by simp only [List.length_append, List.length_cons, List.length_nil]; omega
  (simp only [f236, kid5, b1', b2', hst, hu0, hcA, vv, Frame.put, keepF, Opd.ev, Opd.taken, aun, params, AVal.cells, AVal.known, entries, ASt.push, loadAt, mk, ASt.get, getL, results, result, ASt.trunc, underL, AVal.under, Own.under, storeAt, mayPutL, mayPut, splice, ASt.set, setL, fill, zeros, List.map_cons, List.map_nil, List.nil_append, List.append_nil, Option.map_some, Option.bind_some, Nat.reduceEqDiff, if_true, if_false, reduceIte, Nat.reduceAdd, Nat.reduceSub, Nat.reduceMul, decide_true, decide_false, List.getElem?_cons_zero, List.getElem?_cons_succ, Bool.and_true, Bool.true_and, Bool.and_self, Nat.zero_add, Nat.add_zero, Int.toNat_zero, Int.toNat_one, Nat.zero_mul, Nat.one_mul, Int.le_refl, true_and, and_true, and_self, Bool.false_eq_true, false_or, or_false, Nat.sub_zero, List.drop_succ_cons, List.drop_zero, Bool.not_true, Bool.not_false, Int.reduceLE, Int.reduceLT, Int.reduceEq, Int.reduceToNat, Int.ofNat_zero]; try simp)
theorem r_27 (hkv : ndV kv = some ks) {cA : List UInt8} (hcA : Call C2 233 [.agg (kid5 27 t p e kv)] ⟨0, []⟩ = some (.str cA, ⟨0, []⟩)) (hlen : [t, [40], cA, [41]].flatten.length ≤ limit) : Call C2 236 [.agg (kid5 27 t p e kv)] ⟨0, []⟩ = some (.str [t, [40], cA, [41]].flatten, ⟨0, []⟩) := by
  have hst := ndV_strip hkv
  have hu0 := ndV_under _ hkv
  simp only [kid5] at hcA
  simp only [List.flatten_cons, List.flatten_nil, List.length_append, List.length_cons, List.length_nil] at hlen
  rw [run_of (af := f236) rfl rfl, v_run rfl]
  have b1' : (t).length + ([40] : List UInt8).length ≤ limit := by simp only [List.length_append, List.length_cons, List.length_nil]; omega
  have b2' : (t ++ [40]).length + (cA : List UInt8).length ≤ limit := by simp only [List.length_append, List.length_cons, List.length_nil]; omega
  have b3' : (t ++ [40] ++ cA).length + ([41] : List UInt8).length ≤ limit := by simp only [List.length_append, List.length_cons, List.length_nil]; omega
  (simp only [f236, kid5, b1', b2', b3', hst, hu0, hcA, vv, Frame.put, keepF, Opd.ev, Opd.taken, aun, params, AVal.cells, AVal.known, entries, ASt.push, loadAt, mk, ASt.get, getL, results, result, ASt.trunc, underL, AVal.under, Own.under, storeAt, mayPutL, mayPut, splice, ASt.set, setL, fill, zeros, List.map_cons, List.map_nil, List.nil_append, List.append_nil, Option.map_some, Option.bind_some, Nat.reduceEqDiff, if_true, if_false, reduceIte, Nat.reduceAdd, Nat.reduceSub, Nat.reduceMul, decide_true, decide_false, List.getElem?_cons_zero, List.getElem?_cons_succ, Bool.and_true, Bool.true_and, Bool.and_self, Nat.zero_add, Nat.add_zero, Int.toNat_zero, Int.toNat_one, Nat.zero_mul, Nat.one_mul, Int.le_refl, true_and, and_true, and_self, Bool.false_eq_true, false_or, or_false, Nat.sub_zero, List.drop_succ_cons, List.drop_zero, Bool.not_true, Bool.not_false, Int.reduceLE, Int.reduceLT, Int.reduceEq, Int.reduceToNat, Int.ofNat_zero]; try simp)
theorem r_10 (hkv : ndV kv = some ks)  (hlen : [[105, 110, 116, 91], t, [93]].flatten.length ≤ limit) : Call C2 236 [.agg (kid5 10 t p e kv)] ⟨0, []⟩ = some (.str [[105, 110, 116, 91], t, [93]].flatten, ⟨0, []⟩) := by
  have hst := ndV_strip hkv
  have hu0 := ndV_under _ hkv
  simp only [List.flatten_cons, List.flatten_nil, List.length_append, List.length_cons, List.length_nil] at hlen
  rw [run_of (af := f236) rfl rfl, v_run rfl]
  have b1' : (([105, 110, 116, 91] : List UInt8)).length + (t : List UInt8).length ≤ limit := by simp only [List.length_append, List.length_cons, List.length_nil]; omega
  have b2' : (([105, 110, 116, 91] : List UInt8) ++ t).length + ([93] : List UInt8).length ≤ limit := by simp only [List.length_append, List.length_cons, List.length_nil]; omega
  (simp only [f236, kid5, b1', b2', hst, hu0, vv, Frame.put, keepF, Opd.ev, Opd.taken, aun, params, AVal.cells, AVal.known, entries, ASt.push, loadAt, mk, ASt.get, getL, results, result, ASt.trunc, underL, AVal.under, Own.under, storeAt, mayPutL, mayPut, splice, ASt.set, setL, fill, zeros, List.map_cons, List.map_nil, List.nil_append, List.append_nil, Option.map_some, Option.bind_some, Nat.reduceEqDiff, if_true, if_false, reduceIte, Nat.reduceAdd, Nat.reduceSub, Nat.reduceMul, decide_true, decide_false, List.getElem?_cons_zero, List.getElem?_cons_succ, Bool.and_true, Bool.true_and, Bool.and_self, Nat.zero_add, Nat.add_zero, Int.toNat_zero, Int.toNat_one, Nat.zero_mul, Nat.one_mul, Int.le_refl, true_and, and_true, and_self, Bool.false_eq_true, false_or, or_false, Nat.sub_zero, List.drop_succ_cons, List.drop_zero, Bool.not_true, Bool.not_false, Int.reduceLE, Int.reduceLT, Int.reduceEq, Int.reduceToNat, Int.ofNat_zero]; try simp)
theorem r_4 (hkv : ndV kv = some ks) {cW0 : List UInt8} (hcW0 : KidR 237 ks kv 0 cW0) (hi : 0 < ks.length) (hlen : [t, cW0].flatten.length ≤ limit) : Call C2 236 [.agg (kid5 4 t p e kv)] ⟨0, []⟩ = some (.str [t, cW0].flatten, ⟨0, []⟩) := by
  have hst := ndV_strip hkv
  have hu0 := ndV_under _ hkv
  obtain ⟨cs, o, k0, t0, p0, e0, kv0, ks0, rfl, ho, hu, hn0', hnd0, hkv0, hcut0⟩ := nd_at hkv (i := 0) (by omega)
  have hc0 := hcW0 _ _ _ _ _ _ _ _ rfl hnd0 hkv0 hcut0
  have hz0 : cut cs 0 5 = some (kid5 k0 t0 p0 e0 kv0) := hcut0
  have hv0 := ndV_under _ hkv0
  have hl0 : 0 < ks.length := by omega
  have hm0 : (0 : Int) < (ks.length : Int) := by omega
  simp only [kid5] at hc0 hz0
  simp only [List.flatten_cons, List.flatten_nil, List.length_append, List.length_cons, List.length_nil] at hlen
  rw [run_of (af := f236) rfl rfl, v_run rfl]
  have b1' : (t).length + (cW0 : List UInt8).length ≤ limit := by omega
  rcases ho with rfl | rfl <;> (simp only [f236, kid5, b1', hu, hc0, hz0, hv0, hl0, hm0, vv, Frame.put, keepF, Opd.ev, Opd.taken, aun, params, AVal.cells, AVal.known, entries, ASt.push, loadAt, mk, ASt.get, getL, results, result, ASt.trunc, underL, AVal.under, Own.under, storeAt, mayPutL, mayPut, splice, ASt.set, setL, fill, zeros, List.map_cons, List.map_nil, List.nil_append, List.append_nil, Option.map_some, Option.bind_some, Nat.reduceEqDiff, if_true, if_false, reduceIte, Nat.reduceAdd, Nat.reduceSub, Nat.reduceMul, decide_true, decide_false, List.getElem?_cons_zero, List.getElem?_cons_succ, Bool.and_true, Bool.true_and, Bool.and_self, Nat.zero_add, Nat.add_zero, Int.toNat_zero, Int.toNat_one, Nat.zero_mul, Nat.one_mul, Int.le_refl, true_and, and_true, and_self, Bool.false_eq_true, false_or, or_false, Nat.sub_zero, List.drop_succ_cons, List.drop_zero, Bool.not_true, Bool.not_false, Int.reduceLE, Int.reduceLT, Int.reduceEq, Int.reduceToNat, Int.ofNat_zero]; try simp)
theorem r_7 (hkv : ndV kv = some ks) {cW0 : List UInt8} (hcW0 : KidR 237 ks kv 0 cW0) (hi : 0 < ks.length) (hlen : [t, cW0].flatten.length ≤ limit) : Call C2 236 [.agg (kid5 7 t p e kv)] ⟨0, []⟩ = some (.str [t, cW0].flatten, ⟨0, []⟩) := by
  have hst := ndV_strip hkv
  have hu0 := ndV_under _ hkv
  obtain ⟨cs, o, k0, t0, p0, e0, kv0, ks0, rfl, ho, hu, hn0', hnd0, hkv0, hcut0⟩ := nd_at hkv (i := 0) (by omega)
  have hc0 := hcW0 _ _ _ _ _ _ _ _ rfl hnd0 hkv0 hcut0
  have hz0 : cut cs 0 5 = some (kid5 k0 t0 p0 e0 kv0) := hcut0
  have hv0 := ndV_under _ hkv0
  have hl0 : 0 < ks.length := by omega
  have hm0 : (0 : Int) < (ks.length : Int) := by omega
  simp only [kid5] at hc0 hz0
  simp only [List.flatten_cons, List.flatten_nil, List.length_append, List.length_cons, List.length_nil] at hlen
  rw [run_of (af := f236) rfl rfl, v_run rfl]
  have b1' : (t).length + (cW0 : List UInt8).length ≤ limit := by omega
  rcases ho with rfl | rfl <;> (simp only [f236, kid5, b1', hu, hc0, hz0, hv0, hl0, hm0, vv, Frame.put, keepF, Opd.ev, Opd.taken, aun, params, AVal.cells, AVal.known, entries, ASt.push, loadAt, mk, ASt.get, getL, results, result, ASt.trunc, underL, AVal.under, Own.under, storeAt, mayPutL, mayPut, splice, ASt.set, setL, fill, zeros, List.map_cons, List.map_nil, List.nil_append, List.append_nil, Option.map_some, Option.bind_some, Nat.reduceEqDiff, if_true, if_false, reduceIte, Nat.reduceAdd, Nat.reduceSub, Nat.reduceMul, decide_true, decide_false, List.getElem?_cons_zero, List.getElem?_cons_succ, Bool.and_true, Bool.true_and, Bool.and_self, Nat.zero_add, Nat.add_zero, Int.toNat_zero, Int.toNat_one, Nat.zero_mul, Nat.one_mul, Int.le_refl, true_and, and_true, and_self, Bool.false_eq_true, false_or, or_false, Nat.sub_zero, List.drop_succ_cons, List.drop_zero, Bool.not_true, Bool.not_false, Int.reduceLE, Int.reduceLT, Int.reduceEq, Int.reduceToNat, Int.ofNat_zero]; try simp)
theorem r_8 (hkv : ndV kv = some ks) {cW0 : List UInt8} (hcW0 : KidR 237 ks kv 0 cW0) (hi : 0 < ks.length) (hlen : [[118, 97, 114, 32], t, cW0].flatten.length ≤ limit) : Call C2 236 [.agg (kid5 8 t p e kv)] ⟨0, []⟩ = some (.str [[118, 97, 114, 32], t, cW0].flatten, ⟨0, []⟩) := by
  have hst := ndV_strip hkv
  have hu0 := ndV_under _ hkv
  obtain ⟨cs, o, k0, t0, p0, e0, kv0, ks0, rfl, ho, hu, hn0', hnd0, hkv0, hcut0⟩ := nd_at hkv (i := 0) (by omega)
  have hc0 := hcW0 _ _ _ _ _ _ _ _ rfl hnd0 hkv0 hcut0
  have hz0 : cut cs 0 5 = some (kid5 k0 t0 p0 e0 kv0) := hcut0
  have hv0 := ndV_under _ hkv0
  have hl0 : 0 < ks.length := by omega
  have hm0 : (0 : Int) < (ks.length : Int) := by omega
  simp only [kid5] at hc0 hz0
  simp only [List.flatten_cons, List.flatten_nil, List.length_append, List.length_cons, List.length_nil] at hlen
  rw [run_of (af := f236) rfl rfl, v_run rfl]
  have b1' : (([118, 97, 114, 32] : List UInt8)).length + (t : List UInt8).length ≤ limit := by simp only [List.length_append, List.length_cons, List.length_nil]; omega
  have b2' : (([118, 97, 114, 32] : List UInt8) ++ t).length + (cW0 : List UInt8).length ≤ limit := by simp only [List.length_append, List.length_cons, List.length_nil]; omega
  rcases ho with rfl | rfl <;> (simp only [f236, kid5, b1', b2', hu, hc0, hz0, hv0, hl0, hm0, vv, Frame.put, keepF, Opd.ev, Opd.taken, aun, params, AVal.cells, AVal.known, entries, ASt.push, loadAt, mk, ASt.get, getL, results, result, ASt.trunc, underL, AVal.under, Own.under, storeAt, mayPutL, mayPut, splice, ASt.set, setL, fill, zeros, List.map_cons, List.map_nil, List.nil_append, List.append_nil, Option.map_some, Option.bind_some, Nat.reduceEqDiff, if_true, if_false, reduceIte, Nat.reduceAdd, Nat.reduceSub, Nat.reduceMul, decide_true, decide_false, List.getElem?_cons_zero, List.getElem?_cons_succ, Bool.and_true, Bool.true_and, Bool.and_self, Nat.zero_add, Nat.add_zero, Int.toNat_zero, Int.toNat_one, Nat.zero_mul, Nat.one_mul, Int.le_refl, true_and, and_true, and_self, Bool.false_eq_true, false_or, or_false, Nat.sub_zero, List.drop_succ_cons, List.drop_zero, Bool.not_true, Bool.not_false, Int.reduceLE, Int.reduceLT, Int.reduceEq, Int.reduceToNat, Int.ofNat_zero]; try simp)
theorem r_12 (hkv : ndV kv = some ks) {cK1 cW0 : List UInt8} (hcW0 : KidR 237 ks kv 0 cW0) (hcK1 : Call C2 231 [.agg (kid5 12 t p e kv), .int .i64 1] ⟨0, []⟩ = some (.str cK1, ⟨0, []⟩)) (hi : 0 < ks.length) (hlen : [[118, 97, 114, 32], t, cW0, [32, 61, 32], cK1, [59]].flatten.length ≤ limit) : Call C2 235 [.agg (kid5 12 t p e kv), .int .i64 d] ⟨0, []⟩ = some (.str [[118, 97, 114, 32], t, cW0, [32, 61, 32], cK1, [59]].flatten, ⟨0, []⟩) := by
  have hst := ndV_strip hkv
  have hu0 := ndV_under _ hkv
  obtain ⟨cs, o, k0, t0, p0, e0, kv0, ks0, rfl, ho, hu, hn0', hnd0, hkv0, hcut0⟩ := nd_at hkv (i := 0) (by omega)
  have hc0 := hcW0 _ _ _ _ _ _ _ _ rfl hnd0 hkv0 hcut0
  have hz0 : cut cs 0 5 = some (kid5 k0 t0 p0 e0 kv0) := hcut0
  have hv0 := ndV_under _ hkv0
  have hl0 : 0 < ks.length := by omega
  have hm0 : (0 : Int) < (ks.length : Int) := by omega
  simp only [kid5] at hcK1 hc0 hz0
  simp only [List.flatten_cons, List.flatten_nil, List.length_append, List.length_cons, List.length_nil] at hlen
  rw [run_of (af := f235) rfl rfl, v_run rfl]
  have b1' : (([118, 97, 114, 32] : List UInt8)).length + (t : List UInt8).length ≤ limit := by simp only [List.length_append, List.length_cons, List.length_nil]; omega
  have b2' : (([118, 97, 114, 32] : List UInt8) ++ t).length + (cW0 : List UInt8).length ≤ limit := by simp only [List.length_append, List.length_cons, List.length_nil]; omega
  have b3' : (([118, 97, 114, 32] : List UInt8) ++ t ++ cW0).length + ([32, 61, 32] : List UInt8).length ≤ limit := by simp only [List.length_append, List.length_cons, List.length_nil]; omega
  have b4' : (([118, 97, 114, 32] : List UInt8) ++ t ++ cW0 ++ [32, 61, 32]).length + (cK1 : List UInt8).length ≤ limit := by simp only [List.length_append, List.length_cons, List.length_nil]; omega
  have b5' : (([118, 97, 114, 32] : List UInt8) ++ t ++ cW0 ++ [32, 61, 32] ++ cK1).length + ([59] : List UInt8).length ≤ limit := by simp only [List.length_append, List.length_cons, List.length_nil]; omega
  rcases ho with rfl | rfl <;> (simp only [f235, kid5, b1', b2', b3', b4', b5', hu, hc0, hz0, hv0, hl0, hm0, hcK1, vv, Frame.put, keepF, Opd.ev, Opd.taken, aun, params, AVal.cells, AVal.known, entries, ASt.push, loadAt, mk, ASt.get, getL, results, result, ASt.trunc, underL, AVal.under, Own.under, storeAt, mayPutL, mayPut, splice, ASt.set, setL, fill, zeros, List.map_cons, List.map_nil, List.nil_append, List.append_nil, Option.map_some, Option.bind_some, Nat.reduceEqDiff, if_true, if_false, reduceIte, Nat.reduceAdd, Nat.reduceSub, Nat.reduceMul, decide_true, decide_false, List.getElem?_cons_zero, List.getElem?_cons_succ, Bool.and_true, Bool.true_and, Bool.and_self, Nat.zero_add, Nat.add_zero, Int.toNat_zero, Int.toNat_one, Nat.zero_mul, Nat.one_mul, Int.le_refl, true_and, and_true, and_self, Bool.false_eq_true, false_or, or_false, Nat.sub_zero, List.drop_succ_cons, List.drop_zero, Bool.not_true, Bool.not_false, Int.reduceLE, Int.reduceLT, Int.reduceEq, Int.reduceToNat, Int.ofNat_zero]; try simp)
theorem r_13 (hkv : ndV kv = some ks) {cK0 cK1 : List UInt8} (hcK0 : Call C2 231 [.agg (kid5 13 t p e kv), .int .i64 0] ⟨0, []⟩ = some (.str cK0, ⟨0, []⟩)) (hcK1 : Call C2 231 [.agg (kid5 13 t p e kv), .int .i64 1] ⟨0, []⟩ = some (.str cK1, ⟨0, []⟩)) (hlen : [cK0, [32, 61, 32], cK1, [59]].flatten.length ≤ limit) : Call C2 235 [.agg (kid5 13 t p e kv), .int .i64 d] ⟨0, []⟩ = some (.str [cK0, [32, 61, 32], cK1, [59]].flatten, ⟨0, []⟩) := by
  have hst := ndV_strip hkv
  have hu0 := ndV_under _ hkv
  simp only [kid5] at hcK0 hcK1
  simp only [List.flatten_cons, List.flatten_nil, List.length_append, List.length_cons, List.length_nil] at hlen
  rw [run_of (af := f235) rfl rfl, v_run rfl]
  have b1' : (cK0).length + ([32, 61, 32] : List UInt8).length ≤ limit := by simp only [List.length_append, List.length_cons, List.length_nil]; omega
  have b2' : (cK0 ++ [32, 61, 32]).length + (cK1 : List UInt8).length ≤ limit := by simp only [List.length_append, List.length_cons, List.length_nil]; omega
  have b3' : (cK0 ++ [32, 61, 32] ++ cK1).length + ([59] : List UInt8).length ≤ limit := by simp only [List.length_append, List.length_cons, List.length_nil]; omega
  (simp only [f235, kid5, b1', b2', b3', hst, hu0, hcK0, hcK1, vv, Frame.put, keepF, Opd.ev, Opd.taken, aun, params, AVal.cells, AVal.known, entries, ASt.push, loadAt, mk, ASt.get, getL, results, result, ASt.trunc, underL, AVal.under, Own.under, storeAt, mayPutL, mayPut, splice, ASt.set, setL, fill, zeros, List.map_cons, List.map_nil, List.nil_append, List.append_nil, Option.map_some, Option.bind_some, Nat.reduceEqDiff, if_true, if_false, reduceIte, Nat.reduceAdd, Nat.reduceSub, Nat.reduceMul, decide_true, decide_false, List.getElem?_cons_zero, List.getElem?_cons_succ, Bool.and_true, Bool.true_and, Bool.and_self, Nat.zero_add, Nat.add_zero, Int.toNat_zero, Int.toNat_one, Nat.zero_mul, Nat.one_mul, Int.le_refl, true_and, and_true, and_self, Bool.false_eq_true, false_or, or_false, Nat.sub_zero, List.drop_succ_cons, List.drop_zero, Bool.not_true, Bool.not_false, Int.reduceLE, Int.reduceLT, Int.reduceEq, Int.reduceToNat, Int.ofNat_zero]; try simp)
theorem r_18 (hkv : ndV kv = some ks) {cK0 : List UInt8} (hcK0 : Call C2 231 [.agg (kid5 18 t p e kv), .int .i64 0] ⟨0, []⟩ = some (.str cK0, ⟨0, []⟩)) (hlen : [[97, 115, 115, 101, 114, 116, 32], cK0, [59]].flatten.length ≤ limit) : Call C2 235 [.agg (kid5 18 t p e kv), .int .i64 d] ⟨0, []⟩ = some (.str [[97, 115, 115, 101, 114, 116, 32], cK0, [59]].flatten, ⟨0, []⟩) := by
  have hst := ndV_strip hkv
  have hu0 := ndV_under _ hkv
  simp only [kid5] at hcK0
  simp only [List.flatten_cons, List.flatten_nil, List.length_append, List.length_cons, List.length_nil] at hlen
  rw [run_of (af := f235) rfl rfl, v_run rfl]
  have b1' : (([97, 115, 115, 101, 114, 116, 32] : List UInt8)).length + (cK0 : List UInt8).length ≤ limit := by simp only [List.length_append, List.length_cons, List.length_nil]; omega
  have b2' : (([97, 115, 115, 101, 114, 116, 32] : List UInt8) ++ cK0).length + ([59] : List UInt8).length ≤ limit := by simp only [List.length_append, List.length_cons, List.length_nil]; omega
  (simp only [f235, kid5, b1', b2', hst, hu0, hcK0, vv, Frame.put, keepF, Opd.ev, Opd.taken, aun, params, AVal.cells, AVal.known, entries, ASt.push, loadAt, mk, ASt.get, getL, results, result, ASt.trunc, underL, AVal.under, Own.under, storeAt, mayPutL, mayPut, splice, ASt.set, setL, fill, zeros, List.map_cons, List.map_nil, List.nil_append, List.append_nil, Option.map_some, Option.bind_some, Nat.reduceEqDiff, if_true, if_false, reduceIte, Nat.reduceAdd, Nat.reduceSub, Nat.reduceMul, decide_true, decide_false, List.getElem?_cons_zero, List.getElem?_cons_succ, Bool.and_true, Bool.true_and, Bool.and_self, Nat.zero_add, Nat.add_zero, Int.toNat_zero, Int.toNat_one, Nat.zero_mul, Nat.one_mul, Int.le_refl, true_and, and_true, and_self, Bool.false_eq_true, false_or, or_false, Nat.sub_zero, List.drop_succ_cons, List.drop_zero, Bool.not_true, Bool.not_false, Int.reduceLE, Int.reduceLT, Int.reduceEq, Int.reduceToNat, Int.ofNat_zero]; try simp)
theorem r_19 (hkv : ndV kv = some ks) {cA : List UInt8} (hcA : Call C2 233 [.agg (kid5 19 t p e kv)] ⟨0, []⟩ = some (.str cA, ⟨0, []⟩)) (hlen : [t, [40], cA, [41, 59]].flatten.length ≤ limit) : Call C2 235 [.agg (kid5 19 t p e kv), .int .i64 d] ⟨0, []⟩ = some (.str [t, [40], cA, [41, 59]].flatten, ⟨0, []⟩) := by
  have hst := ndV_strip hkv
  have hu0 := ndV_under _ hkv
  simp only [kid5] at hcA
  simp only [List.flatten_cons, List.flatten_nil, List.length_append, List.length_cons, List.length_nil] at hlen
  rw [run_of (af := f235) rfl rfl, v_run rfl]
  have b1' : (t).length + ([40] : List UInt8).length ≤ limit := by simp only [List.length_append, List.length_cons, List.length_nil]; omega
  have b2' : (t ++ [40]).length + (cA : List UInt8).length ≤ limit := by simp only [List.length_append, List.length_cons, List.length_nil]; omega
  have b3' : (t ++ [40] ++ cA).length + ([41, 59] : List UInt8).length ≤ limit := by simp only [List.length_append, List.length_cons, List.length_nil]; omega
  (simp only [f235, kid5, b1', b2', b3', hst, hu0, hcA, vv, Frame.put, keepF, Opd.ev, Opd.taken, aun, params, AVal.cells, AVal.known, entries, ASt.push, loadAt, mk, ASt.get, getL, results, result, ASt.trunc, underL, AVal.under, Own.under, storeAt, mayPutL, mayPut, splice, ASt.set, setL, fill, zeros, List.map_cons, List.map_nil, List.nil_append, List.append_nil, Option.map_some, Option.bind_some, Nat.reduceEqDiff, if_true, if_false, reduceIte, Nat.reduceAdd, Nat.reduceSub, Nat.reduceMul, decide_true, decide_false, List.getElem?_cons_zero, List.getElem?_cons_succ, Bool.and_true, Bool.true_and, Bool.and_self, Nat.zero_add, Nat.add_zero, Int.toNat_zero, Int.toNat_one, Nat.zero_mul, Nat.one_mul, Int.le_refl, true_and, and_true, and_self, Bool.false_eq_true, false_or, or_false, Nat.sub_zero, List.drop_succ_cons, List.drop_zero, Bool.not_true, Bool.not_false, Int.reduceLE, Int.reduceLT, Int.reduceEq, Int.reduceToNat, Int.ofNat_zero]; try simp)
theorem r_15 (hkv : ndV kv = some ks) {cK0 cX1 : List UInt8} (hcK0 : Call C2 231 [.agg (kid5 15 t p e kv), .int .i64 0] ⟨0, []⟩ = some (.str cK0, ⟨0, []⟩)) (hcX1 : KidD 228 d ks kv 1 cX1) (hi : 1 < ks.length) (hlen : [[119, 104, 105, 108, 101, 32], cK0, [32], cX1].flatten.length ≤ limit) : Call C2 235 [.agg (kid5 15 t p e kv), .int .i64 d] ⟨0, []⟩ = some (.str [[119, 104, 105, 108, 101, 32], cK0, [32], cX1].flatten, ⟨0, []⟩) := by
  have hst := ndV_strip hkv
  have hu0 := ndV_under _ hkv
  obtain ⟨cs, o, k1, t1, p1, e1, kv1, ks1, rfl, ho, hu, hn1', hnd1, hkv1, hcut1⟩ := nd_at hkv (i := 1) (by omega)
  have hc1 := hcX1 _ _ _ _ _ _ _ _ rfl hnd1 hkv1 hcut1
  have hz1 : cut cs 5 5 = some (kid5 k1 t1 p1 e1 kv1) := hcut1
  have hv1 := ndV_under _ hkv1
  have hl1 : 1 < ks.length := by omega
  have hm1 : (1 : Int) < (ks.length : Int) := by omega
  simp only [kid5] at hcK0 hc1 hz1
  simp only [List.flatten_cons, List.flatten_nil, List.length_append, List.length_cons, List.length_nil] at hlen
  rw [run_of (af := f235) rfl rfl, v_run rfl]
  have b1' : (([119, 104, 105, 108, 101, 32] : List UInt8)).length + (cK0 : List UInt8).length ≤ limit := by simp only [List.length_append, List.length_cons, List.length_nil]; omega
  have b2' : (([119, 104, 105, 108, 101, 32] : List UInt8) ++ cK0).length + ([32] : List UInt8).length ≤ limit := by simp only [List.length_append, List.length_cons, List.length_nil]; omega
  have b3' : (([119, 104, 105, 108, 101, 32] : List UInt8) ++ cK0 ++ [32]).length + (cX1 : List UInt8).length ≤ limit := by simp only [List.length_append, List.length_cons, List.length_nil]; omega
  rcases ho with rfl | rfl <;> (simp only [f235, kid5, b1', b2', b3', hu, hc1, hz1, hv1, hl1, hm1, hcK0, vv, Frame.put, keepF, Opd.ev, Opd.taken, aun, params, AVal.cells, AVal.known, entries, ASt.push, loadAt, mk, ASt.get, getL, results, result, ASt.trunc, underL, AVal.under, Own.under, storeAt, mayPutL, mayPut, splice, ASt.set, setL, fill, zeros, List.map_cons, List.map_nil, List.nil_append, List.append_nil, Option.map_some, Option.bind_some, Nat.reduceEqDiff, if_true, if_false, reduceIte, Nat.reduceAdd, Nat.reduceSub, Nat.reduceMul, decide_true, decide_false, List.getElem?_cons_zero, List.getElem?_cons_succ, Bool.and_true, Bool.true_and, Bool.and_self, Nat.zero_add, Nat.add_zero, Int.toNat_zero, Int.toNat_one, Nat.zero_mul, Nat.one_mul, Int.le_refl, true_and, and_true, and_self, Bool.false_eq_true, false_or, or_false, Nat.sub_zero, List.drop_succ_cons, List.drop_zero, Bool.not_true, Bool.not_false, Int.reduceLE, Int.reduceLT, Int.reduceEq, Int.reduceToNat, Int.ofNat_zero]; try simp)
theorem r_16 (hkv : ndV kv = some ks) {cK0 cK1 cX2 : List UInt8} (hcK0 : Call C2 231 [.agg (kid5 16 t p e kv), .int .i64 0] ⟨0, []⟩ = some (.str cK0, ⟨0, []⟩)) (hcK1 : Call C2 231 [.agg (kid5 16 t p e kv), .int .i64 1] ⟨0, []⟩ = some (.str cK1, ⟨0, []⟩)) (hcX2 : KidD 228 d ks kv 2 cX2) (hi : 2 < ks.length) (hlen : [[102, 111, 114, 32], t, [32, 61, 32], cK0, [32, 116, 111, 32], cK1, [32], cX2].flatten.length ≤ limit) : Call C2 235 [.agg (kid5 16 t p e kv), .int .i64 d] ⟨0, []⟩ = some (.str [[102, 111, 114, 32], t, [32, 61, 32], cK0, [32, 116, 111, 32], cK1, [32], cX2].flatten, ⟨0, []⟩) := by
  have hst := ndV_strip hkv
  have hu0 := ndV_under _ hkv
  obtain ⟨cs, o, k2, t2, p2, e2, kv2, ks2, rfl, ho, hu, hn2', hnd2, hkv2, hcut2⟩ := nd_at hkv (i := 2) (by omega)
  have hc2 := hcX2 _ _ _ _ _ _ _ _ rfl hnd2 hkv2 hcut2
  have hz2 : cut cs 10 5 = some (kid5 k2 t2 p2 e2 kv2) := hcut2
  have hv2 := ndV_under _ hkv2
  have hl2 : 2 < ks.length := by omega
  have hm2 : (2 : Int) < (ks.length : Int) := by omega
  simp only [kid5] at hcK0 hcK1 hc2 hz2
  simp only [List.flatten_cons, List.flatten_nil, List.length_append, List.length_cons, List.length_nil] at hlen
  rw [run_of (af := f235) rfl rfl, v_run rfl]
  have b1' : (([102, 111, 114, 32] : List UInt8)).length + (t : List UInt8).length ≤ limit := by simp only [List.length_append, List.length_cons, List.length_nil]; omega
  have b2' : (([102, 111, 114, 32] : List UInt8) ++ t).length + ([32, 61, 32] : List UInt8).length ≤ limit := by simp only [List.length_append, List.length_cons, List.length_nil]; omega
  have b3' : (([102, 111, 114, 32] : List UInt8) ++ t ++ [32, 61, 32]).length + (cK0 : List UInt8).length ≤ limit := by simp only [List.length_append, List.length_cons, List.length_nil]; omega
  have b4' : (([102, 111, 114, 32] : List UInt8) ++ t ++ [32, 61, 32] ++ cK0).length + ([32, 116, 111, 32] : List UInt8).length ≤ limit := by simp only [List.length_append, List.length_cons, List.length_nil]; omega
  have b5' : (([102, 111, 114, 32] : List UInt8) ++ t ++ [32, 61, 32] ++ cK0 ++ [32, 116, 111, 32]).length + (cK1 : List UInt8).length ≤ limit := by simp only [List.length_append, List.length_cons, List.length_nil]; omega
  have b6' : (([102, 111, 114, 32] : List UInt8) ++ t ++ [32, 61, 32] ++ cK0 ++ [32, 116, 111, 32] ++ cK1).length + ([32] : List UInt8).length ≤ limit := by simp only [List.length_append, List.length_cons, List.length_nil]; omega
  have b7' : (([102, 111, 114, 32] : List UInt8) ++ t ++ [32, 61, 32] ++ cK0 ++ [32, 116, 111, 32] ++ cK1 ++ [32]).length + (cX2 : List UInt8).length ≤ limit := by simp only [List.length_append, List.length_cons, List.length_nil]; omega
  rcases ho with rfl | rfl <;> (simp only [f235, kid5, b1', b2', b3', b4', b5', b6', b7', hu, hc2, hz2, hv2, hl2, hm2, hcK0, hcK1, vv, Frame.put, keepF, Opd.ev, Opd.taken, aun, params, AVal.cells, AVal.known, entries, ASt.push, loadAt, mk, ASt.get, getL, results, result, ASt.trunc, underL, AVal.under, Own.under, storeAt, mayPutL, mayPut, splice, ASt.set, setL, fill, zeros, List.map_cons, List.map_nil, List.nil_append, List.append_nil, Option.map_some, Option.bind_some, Nat.reduceEqDiff, if_true, if_false, reduceIte, Nat.reduceAdd, Nat.reduceSub, Nat.reduceMul, decide_true, decide_false, List.getElem?_cons_zero, List.getElem?_cons_succ, Bool.and_true, Bool.true_and, Bool.and_self, Nat.zero_add, Nat.add_zero, Int.toNat_zero, Int.toNat_one, Nat.zero_mul, Nat.one_mul, Int.le_refl, true_and, and_true, and_self, Bool.false_eq_true, false_or, or_false, Nat.sub_zero, List.drop_succ_cons, List.drop_zero, Bool.not_true, Bool.not_false, Int.reduceLE, Int.reduceLT, Int.reduceEq, Int.reduceToNat, Int.ofNat_zero]; try simp)
theorem r_3 (hkv : ndV kv = some ks) {cA : List UInt8} (hcA : Call C2 233 [.agg (kid5 3 t p e kv)] ⟨0, []⟩ = some (.str cA, ⟨0, []⟩)) (hlen : [[114, 101, 99, 111, 114, 100, 32], t, [32, 123, 32], cA, [32, 125]].flatten.length ≤ limit) : Call C2 229 [.agg (kid5 3 t p e kv)] ⟨0, []⟩ = some (.str [[114, 101, 99, 111, 114, 100, 32], t, [32, 123, 32], cA, [32, 125]].flatten, ⟨0, []⟩) := by
  have hst := ndV_strip hkv
  have hu0 := ndV_under _ hkv
  simp only [kid5] at hcA
  simp only [List.flatten_cons, List.flatten_nil, List.length_append, List.length_cons, List.length_nil] at hlen
  rw [run_of (af := f229) rfl rfl, v_run rfl]
  have b1' : (([114, 101, 99, 111, 114, 100, 32] : List UInt8)).length + (t : List UInt8).length ≤ limit := by simp only [List.length_append, List.length_cons, List.length_nil]; omega
  have b2' : (([114, 101, 99, 111, 114, 100, 32] : List UInt8) ++ t).length + ([32, 123, 32] : List UInt8).length ≤ limit := by simp only [List.length_append, List.length_cons, List.length_nil]; omega
  have b3' : (([114, 101, 99, 111, 114, 100, 32] : List UInt8) ++ t ++ [32, 123, 32]).length + (cA : List UInt8).length ≤ limit := by simp only [List.length_append, List.length_cons, List.length_nil]; omega
  have b4' : (([114, 101, 99, 111, 114, 100, 32] : List UInt8) ++ t ++ [32, 123, 32] ++ cA).length + ([32, 125] : List UInt8).length ≤ limit := by simp only [List.length_append, List.length_cons, List.length_nil]; omega
  (simp only [f229, kid5, b1', b2', b3', b4', hst, hu0, hcA, vv, Frame.put, keepF, Opd.ev, Opd.taken, aun, params, AVal.cells, AVal.known, entries, ASt.push, loadAt, mk, ASt.get, getL, results, result, ASt.trunc, underL, AVal.under, Own.under, storeAt, mayPutL, mayPut, splice, ASt.set, setL, fill, zeros, List.map_cons, List.map_nil, List.nil_append, List.append_nil, Option.map_some, Option.bind_some, Nat.reduceEqDiff, if_true, if_false, reduceIte, Nat.reduceAdd, Nat.reduceSub, Nat.reduceMul, decide_true, decide_false, List.getElem?_cons_zero, List.getElem?_cons_succ, Bool.and_true, Bool.true_and, Bool.and_self, Nat.zero_add, Nat.add_zero, Int.toNat_zero, Int.toNat_one, Nat.zero_mul, Nat.one_mul, Int.le_refl, true_and, and_true, and_self, Bool.false_eq_true, false_or, or_false, Nat.sub_zero, List.drop_succ_cons, List.drop_zero, Bool.not_true, Bool.not_false, Int.reduceLE, Int.reduceLT, Int.reduceEq, Int.reduceToNat, Int.ofNat_zero]; try simp)
theorem r_5 (hkv : ndV kv = some ks) {cA cW1 cX2 : List UInt8} (hcA : KidR 233 ks kv 0 cA) (hcW1 : KidR 237 ks kv 1 cW1) (hcX2 : KidD 228 0 ks kv 2 cX2) (hi : 2 < ks.length) (hlen : [[112, 114, 111, 99, 32], t, [40], cA, [41], cW1, [32], cX2].flatten.length ≤ limit) : Call C2 229 [.agg (kid5 5 t p e kv)] ⟨0, []⟩ = some (.str [[112, 114, 111, 99, 32], t, [40], cA, [41], cW1, [32], cX2].flatten, ⟨0, []⟩) := by
  have hst := ndV_strip hkv
  have hu0 := ndV_under _ hkv
  obtain ⟨cs, o, k0, t0, p0, e0, kv0, ks0, rfl, ho, hu, hn0', hnd0, hkv0, hcut0⟩ := nd_at hkv (i := 0) (by omega)
  have hc0 := hcA _ _ _ _ _ _ _ _ rfl hnd0 hkv0 hcut0
  have hz0 : cut cs 0 5 = some (kid5 k0 t0 p0 e0 kv0) := hcut0
  have hv0 := ndV_under _ hkv0
  have hl0 : 0 < ks.length := by omega
  have hm0 : (0 : Int) < (ks.length : Int) := by omega
  obtain ⟨cs1', o1', k1, t1, p1, e1, kv1, ks1, hq1, ho1, hu1, hn1', hnd1, hkv1, hcut1⟩ := nd_at hkv (i := 1) (by omega)
  cases hq1
  have hc1 := hcW1 _ _ _ _ _ _ _ _ rfl hnd1 hkv1 hcut1
  have hz1 : cut cs 5 5 = some (kid5 k1 t1 p1 e1 kv1) := hcut1
  have hv1 := ndV_under _ hkv1
  have hl1 : 1 < ks.length := by omega
  have hm1 : (1 : Int) < (ks.length : Int) := by omega
  obtain ⟨cs2', o2', k2, t2, p2, e2, kv2, ks2, hq2, ho2, hu2, hn2', hnd2, hkv2, hcut2⟩ := nd_at hkv (i := 2) (by omega)
  cases hq2
  have hc2 := hcX2 _ _ _ _ _ _ _ _ rfl hnd2 hkv2 hcut2
  have hz2 : cut cs 10 5 = some (kid5 k2 t2 p2 e2 kv2) := hcut2
  have hv2 := ndV_under _ hkv2
  have hl2 : 2 < ks.length := by omega
  have hm2 : (2 : Int) < (ks.length : Int) := by omega
  simp only [kid5] at hc0 hc1 hc2 hz0 hz1 hz2
  simp only [List.flatten_cons, List.flatten_nil, List.length_append, List.length_cons, List.length_nil] at hlen
  rw [run_of (af := f229) rfl rfl, v_run rfl]
  have b1' : (([112, 114, 111, 99, 32] : List UInt8)).length + (t : List UInt8).length ≤ limit := by simp only [List.length_append, List.length_cons, List.length_nil]; omega
  have b2' : (([112, 114, 111, 99, 32] : List UInt8) ++ t).length + ([40] : List UInt8).length ≤ limit := by simp only [List.length_append, List.length_cons, List.length_nil]; omega
  have b3' : (([112, 114, 111, 99, 32] : List UInt8) ++ t ++ [40]).length + (cA : List UInt8).length ≤ limit := by simp only [List.length_append, List.length_cons, List.length_nil]; omega
  have b4' : (([112, 114, 111, 99, 32] : List UInt8) ++ t ++ [40] ++ cA).length + ([41] : List UInt8).length ≤ limit := by simp only [List.length_append, List.length_cons, List.length_nil]; omega
  have b5' : (([112, 114, 111, 99, 32] : List UInt8) ++ t ++ [40] ++ cA ++ [41]).length + (cW1 : List UInt8).length ≤ limit := by simp only [List.length_append, List.length_cons, List.length_nil]; omega
  have b6' : (([112, 114, 111, 99, 32] : List UInt8) ++ t ++ [40] ++ cA ++ [41] ++ cW1).length + ([32] : List UInt8).length ≤ limit := by simp only [List.length_append, List.length_cons, List.length_nil]; omega
  have b7' : (([112, 114, 111, 99, 32] : List UInt8) ++ t ++ [40] ++ cA ++ [41] ++ cW1 ++ [32]).length + (cX2 : List UInt8).length ≤ limit := by simp only [List.length_append, List.length_cons, List.length_nil]; omega
  rcases ho with rfl | rfl <;> (simp only [f229, kid5, b1', b2', b3', b4', b5', b6', b7', hu, hc0, hz0, hv0, hl0, hm0, hc1, hz1, hv1, hl1, hm1, hc2, hz2, hv2, hl2, hm2, vv, Frame.put, keepF, Opd.ev, Opd.taken, aun, params, AVal.cells, AVal.known, entries, ASt.push, loadAt, mk, ASt.get, getL, results, result, ASt.trunc, underL, AVal.under, Own.under, storeAt, mayPutL, mayPut, splice, ASt.set, setL, fill, zeros, List.map_cons, List.map_nil, List.nil_append, List.append_nil, Option.map_some, Option.bind_some, Nat.reduceEqDiff, if_true, if_false, reduceIte, Nat.reduceAdd, Nat.reduceSub, Nat.reduceMul, decide_true, decide_false, List.getElem?_cons_zero, List.getElem?_cons_succ, Bool.and_true, Bool.true_and, Bool.and_self, Nat.zero_add, Nat.add_zero, Int.toNat_zero, Int.toNat_one, Nat.zero_mul, Nat.one_mul, Int.le_refl, true_and, and_true, and_self, Bool.false_eq_true, false_or, or_false, Nat.sub_zero, List.drop_succ_cons, List.drop_zero, Bool.not_true, Bool.not_false, Int.reduceLE, Int.reduceLT, Int.reduceEq, Int.reduceToNat, Int.ofNat_zero]; try simp)
end
end Go.Proofs.YtdhgdpokdhjanaaGreat.Abs
