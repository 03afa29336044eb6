/- What the reference writes, kind by kind; partly written by a program (mkcase2.py). -/
import Derived.Test.YtdhgdpokdhjanaaGreatZ7
import Derived.Test.YtdhgdpokdhjanaaGreatMZ3
set_option linter.unusedSimpArgs false
set_option linter.unusedVariables false
namespace Go.Proofs.YtdhgdpokdhjanaaGreat.Abs
open Go

/-! ### Blocks -/

section
variable {k : Int} {t : List UInt8} {p e : Int} {kv : AVal} {ks : List Nd} {d : Nat}

def blk2Loop : ACode := match f228.code with
  | .seq _ (.seq _ (.seq (.seq _ (.block _ (.loop b _))) _)) => b
  | _ => .bad

theorem blk2_loop {cs : List AVal} {o : Own} (hkv : ndV (.sl cs ks.length o) = some ks) (hd : d + 1 ≤ 1000000) {S : Nat → List UInt8} (hS : ∀ i, i < ks.length → KidD 235 ((d + 1 : Nat) : Int) ks (.sl cs ks.length o) i (S i)) :
    ∀ (r i : Nat) (x : List UInt8), i + r = ks.length → (x ++ (List.range' i r).flatMap fun i => lineT d (S i)).length ≤ limit →
      Loop C2 blk2Loop [1, 2, 5, 6] [(1, .int .i64 d), (2, .ref 0 0), (5, .str x), (6, .int .i64 i)] ⟨1, [.cells (kid5 k t p e (.sl cs ks.length o))]⟩ =
        some (.exit 0, [(1, .int .i64 d), (2, .ref 0 0), (5, .str (x ++ (List.range' i r).flatMap fun i => lineT d (S i))), (6, .int .i64 ks.length), (11, .bool false)], ⟨1, [.cells (kid5 k t p e (.sl cs ks.length o))]⟩)
  | 0, i, x, h, hlen => by
    have : i = ks.length := by omega
    subst this
    have hst := ndV_strip hkv
    have hrd := ndV_read hkv
    rw [Loop_eq, v_stepLoop]
    simp [blk2Loop, f228, kid5, hst, hrd, vv, Frame.put, keepF, Opd.ev, Opd.taken, aun, params, AVal.cells, AVal.known, entries, ASt.push, loadAt, mk, ASt.get, getL, results, result, ASt.trunc, underL, AVal.under, Own.under, storeAt, mayPutL, mayPut, splice, ASt.set, setL, fill, zeros, List.map_cons, List.map_nil, List.nil_append, List.append_nil, Option.map_some, Option.bind_some]
  | r + 1, i, x, h, hlen => by
    have hlt : i < ks.length := by omega
    have hlt2 : (i : Int) < (ks.length : Int) := by omega
    obtain ⟨cs', o', k1, t1, p1, e1, kv1, ks1, hq, ho, hu, hn, hnd1, hkv1, hcut1⟩ := nd_at hkv hlt
    cases hq
    have hc := hS i hlt _ _ _ _ _ _ _ _ rfl hnd1 hkv1 hcut1
    have hw : IntKind.wrap .i64 ((i : Int) + 1) = ((i + 1 : Nat) : Int) := by
      have hlim : limit = 2 ^ 36 := rfl
      rw [wrap_i64 (by omega) (by omega)]; rfl
    have hwd : IntKind.wrap .i64 ((d : Int) + 1) = ((d + 1 : Nat) : Int) := by
      rw [wrap_i64 (by omega) (by omega)]; rfl
    simp only [List.range'_succ, List.flatMap_cons] at hlen ⊢
    have ih := blk2_loop hkv hd hS r (i + 1) (x ++ lineT d (S i)) (by omega) (by rw [List.append_assoc]; exact hlen)
    rw [← List.append_assoc, ← ih]
    clear ih
    have h30 : kv1.under 0 = true := ndV_under _ hkv1
    have hind := ind2_call (d + 1) hd
    have hx : x ++ lineT d (S i) = x ++ indT (d + 1) ++ S i ++ [10] := by simp [lineT]
    rw [hx]
    have hl : (x ++ indT (d + 1) ++ S i ++ [10]).length ≤ limit := by
      rw [← hx]
      simp only [List.length_append] at hlen ⊢
      omega
    simp only [List.length_append, List.length_cons, List.length_nil] at hl
    generalize indT (d + 1) = I at *
    generalize S i = Y at *
    have b1 : x.length + I.length ≤ limit := by omega
    have b2 : (x ++ I).length + Y.length ≤ limit := by simp only [List.length_append]; omega
    have b3 : (x ++ I ++ Y).length + ([10] : List UInt8).length ≤ limit := by simp only [List.length_append, List.length_cons, List.length_nil]; omega
    simp only [kid5] at hc hcut1
    have hge : (0 : Int) ≤ (i : Int) := by omega
    have hlt3 : decide ((i : Int) < (ks.length : Int)) = true := by simpa using hlt2
    rw [Loop_eq, v_stepLoop]
    generalize ((d + 1 : Nat) : Int) = D at *
    rcases ho with rfl | rfl <;> simp only [blk2Loop, f228, kid5, hlt3, hge, hlt2, hcut1, hc, h30, hw, hwd, hind, b1, b2, b3, Int.toNat_natCast, vv, Frame.put, keepF, Opd.ev, Opd.taken, aun, params, AVal.cells, AVal.known, entries, ASt.push, loadAt, mk, ASt.get, getL, results, result, ASt.trunc, underL, AVal.under, Own.under, storeAt, mayPutL, mayPut, splice, ASt.set, setL, fill, zeros, List.map_cons, List.map_nil, List.nil_append, List.append_nil, Option.map_some, Option.bind_some, Nat.reduceEqDiff, if_true, if_false, reduceIte, Nat.reduceAdd, Nat.reduceSub, Nat.reduceMul, decide_true, decide_false, List.getElem?_cons_zero, List.getElem?_cons_succ, Bool.and_true, Bool.true_and, Bool.and_self, Nat.zero_add, Nat.add_zero, Int.toNat_zero, Int.toNat_one, Nat.zero_mul, Nat.one_mul, Int.le_refl, true_and, and_true, and_self, Bool.false_eq_true, false_or, or_false, Nat.sub_zero, List.drop_succ_cons, List.drop_zero, Bool.not_true, Bool.not_false, Int.reduceLE, Int.reduceLT, Int.reduceEq, Int.reduceToNat, Int.ofNat_zero]

theorem blk2_nils {x : List UInt8} : Loop C2 blk2Loop [1, 2, 5, 6] [(1, .int .i64 d), (2, .ref 0 0), (5, .str x), (6, .int .i64 0)] ⟨1, [.cells (kid5 k t p e .nils)]⟩ =
    some (.exit 0, [(1, .int .i64 d), (2, .ref 0 0), (5, .str x), (6, .int .i64 0), (11, .bool false)], ⟨1, [.cells (kid5 k t p e .nils)]⟩) := by
  rw [Loop_eq, v_stepLoop]
  simp [blk2Loop, f228, kid5, vv, Frame.put, keepF, Opd.ev, Opd.taken, aun, params, AVal.cells, AVal.known, entries, ASt.push, loadAt, mk, ASt.get, getL, results, result, ASt.trunc, underL, AVal.under, Own.under, storeAt, mayPutL, mayPut, splice, ASt.set, setL, fill, zeros, List.map_cons, List.map_nil, List.nil_append, List.append_nil, Option.map_some, Option.bind_some]

theorem r_11 (hkv : ndV kv = some ks) (hd : d + 1 ≤ 1000000) {S : Nat → List UInt8} (hS : ∀ i, i < ks.length → KidD 235 ((d + 1 : Nat) : Int) ks kv i (S i))
    (hlen : ([123, 10] ++ (((List.range' 0 ks.length).flatMap fun i => lineT d (S i)) ++ [indT d, [125]].flatten)).length ≤ limit) :
    Call C2 228 [.agg (kid5 k t p e kv), .int .i64 d] ⟨0, []⟩ = some (.str ([123, 10] ++ (((List.range' 0 ks.length).flatMap fun i => lineT d (S i)) ++ [indT d, [125]].flatten)), ⟨0, []⟩) := by
  have hind := ind2_call d (by omega)
  have hY : ∀ Y : List UInt8, [123, 10] ++ (Y ++ [indT d, [125]].flatten) = [123, 10] ++ Y ++ indT d ++ [125] := fun Y => by simp
  rw [hY] at hlen ⊢
  rcases ndV_cases hkv with ⟨rfl, rfl⟩ | ⟨cs, n, o, rfl, ho, hcl, hn, hL⟩
  · have hL := blk2_nils (k := k) (t := t) (p := p) (e := e) (d := d) (x := [123, 10])
    simp only [List.length_nil, List.range'_zero, List.flatMap_nil, List.append_nil] at hlen ⊢
    simp only [List.length_append, List.length_cons, List.length_nil] at hlen
    generalize indT d = I at *
    have b1 : ([123, 10] : List UInt8).length + I.length ≤ limit := by simp only [List.length_cons, List.length_nil]; omega
    have b2 : (([123, 10] : List UInt8) ++ I).length + ([125] : List UInt8).length ≤ limit := by simp only [List.length_append, List.length_cons, List.length_nil]; omega
    simp only [blk2Loop, f228, kid5] at hL
    rw [run_of (af := f228) rfl rfl, v_run rfl]
    simp only [f228, kid5, hL, hind, b1, b2, vv, Frame.put, keepF, Opd.ev, Opd.taken, aun, params, AVal.cells, AVal.known, entries, ASt.push, loadAt, mk, ASt.get, getL, results, result, ASt.trunc, underL, AVal.under, Own.under, storeAt, mayPutL, mayPut, splice, ASt.set, setL, fill, zeros, List.map_cons, List.map_nil, List.nil_append, List.append_nil, Option.map_some, Option.bind_some, Nat.reduceEqDiff, if_true, if_false, reduceIte, Nat.reduceAdd, Nat.reduceSub, Nat.reduceMul, decide_true, decide_false, List.getElem?_cons_zero, List.getElem?_cons_succ, Bool.and_true, Bool.true_and, Bool.and_self, Nat.zero_add, Nat.add_zero, Int.toNat_zero, Int.toNat_one, Nat.zero_mul, Nat.one_mul, Int.le_refl, true_and, and_true, and_self, Bool.false_eq_true, false_or, or_false, Nat.sub_zero, List.drop_succ_cons, List.drop_zero, Bool.not_true, Bool.not_false, Int.reduceLE, Int.reduceLT, Int.reduceEq, Int.reduceToNat, Int.ofNat_zero]
    try simp
  · have hn2 : n = ks.length := by have := ndL_length hL; omega
    subst hn2
    have hL2 := blk2_loop (k := k) (t := t) (p := p) (e := e) hkv hd hS ks.length 0 [123, 10] (by omega) (by simp only [List.length_append] at hlen ⊢; omega)
    generalize ([123, 10] ++ (List.range' 0 ks.length).flatMap fun i => lineT d (S i)) = Y at *
    simp only [List.length_append, List.length_cons, List.length_nil] at hlen
    generalize indT d = I at *
    have b1 : Y.length + I.length ≤ limit := by omega
    have b2 : (Y ++ I).length + ([125] : List UInt8).length ≤ limit := by simp only [List.length_append, List.length_cons, List.length_nil]; omega
    simp only [blk2Loop, f228, kid5, Int.ofNat_zero] at hL2
    rw [run_of (af := f228) rfl rfl, v_run rfl]
    rcases ho with rfl | rfl <;> simp only [f228, kid5, hL2, hind, b1, b2, vv, Frame.put, keepF, Opd.ev, Opd.taken, aun, params, AVal.cells, AVal.known, entries, ASt.push, loadAt, mk, ASt.get, getL, results, result, ASt.trunc, underL, AVal.under, Own.under, storeAt, mayPutL, mayPut, splice, ASt.set, setL, fill, zeros, List.map_cons, List.map_nil, List.nil_append, List.append_nil, Option.map_some, Option.bind_some, Nat.reduceEqDiff, if_true, if_false, reduceIte, Nat.reduceAdd, Nat.reduceSub, Nat.reduceMul, decide_true, decide_false, List.getElem?_cons_zero, List.getElem?_cons_succ, Bool.and_true, Bool.true_and, Bool.and_self, Nat.zero_add, Nat.add_zero, Int.toNat_zero, Int.toNat_one, Nat.zero_mul, Nat.one_mul, Int.le_refl, true_and, and_true, and_self, Bool.false_eq_true, false_or, or_false, Nat.sub_zero, List.drop_succ_cons, List.drop_zero, Bool.not_true, Bool.not_false, Int.reduceLE, Int.reduceLT, Int.reduceEq, Int.reduceToNat, Int.ofNat_zero] <;> try simp
end

/-! ### What is known of smaller trees -/

def RIH (N : Nat) : Prop := ∀ (k : Int) (t : List UInt8) (ks : List Nd) (d : Nat), (Nd.mk k t ks).all.length ≤ N → (Nd.mk k t ks).ok = true → d + N ≤ 1000000 → (txt (.mk k t ks) d).length ≤ limit →
  ∀ p e kv, ndV kv = some ks →
    ((k = 4 ∨ k = 7 ∨ k = 8 ∨ k = 9 ∨ k = 10 ∨ 20 ≤ k ∧ k ≤ 29) → Call C2 236 [.agg (kid5 k t p e kv)] ⟨0, []⟩ = some (.str (txt (.mk k t ks) d), ⟨0, []⟩)) ∧
    (k = 11 → Call C2 228 [.agg (kid5 k t p e kv), .int .i64 d] ⟨0, []⟩ = some (.str (txt (.mk k t ks) d), ⟨0, []⟩)) ∧
    (12 ≤ k ∧ k ≤ 19 → Call C2 235 [.agg (kid5 k t p e kv), .int .i64 d] ⟨0, []⟩ = some (.str (txt (.mk k t ks) d), ⟨0, []⟩))

section
variable {N : Nat} {k : Int} {t : List UInt8} {p e : Int} {kv : AVal} {ks : List Nd} {d : Nat}

theorem rwX (H : RIH N) (hN : (allL ks).length ≤ N) (hok : (Nd.mk k t ks).ok = true) {i : Nat} (hi : i < ks.length) (hk : (ks.getD i nd0).kind = 4 ∨ (ks.getD i nd0).kind = 7 ∨ (ks.getD i nd0).kind = 8 ∨ (ks.getD i nd0).kind = 9 ∨ (ks.getD i nd0).kind = 10 ∨ 20 ≤ (ks.getD i nd0).kind ∧ (ks.getD i nd0).kind ≤ 29)
    (hd : d + N ≤ 1000000) (hb : (txt (ks.getD i nd0) d).length ≤ limit) : KidR 236 ks kv i (txt (ks.getD i nd0) d) := by
  intro cs o k2 t2 p2 e2 kv2 ks2 _ hnd hkv2 _
  have h1 := ok_sub hok hi
  have h2 := kids_len (getD_mem hi)
  rw [hnd] at hk hb h1 h2 ⊢
  exact (H k2 t2 ks2 d (by omega) h1 hd hb p2 e2 kv2 hkv2).1 hk
theorem rwB (H : RIH N) (hN : (allL ks).length ≤ N) (hok : (Nd.mk k t ks).ok = true) {i : Nat} (hi : i < ks.length) (hk : (ks.getD i nd0).kind = 11)
    (hd : d + N ≤ 1000000) (hb : (txt (ks.getD i nd0) d).length ≤ limit) : KidD 228 (d : Nat) ks kv i (txt (ks.getD i nd0) d) := by
  intro cs o k2 t2 p2 e2 kv2 ks2 _ hnd hkv2 _
  have h1 := ok_sub hok hi
  have h2 := kids_len (getD_mem hi)
  rw [hnd] at hk hb h1 h2 ⊢
  exact (H k2 t2 ks2 d (by omega) h1 hd hb p2 e2 kv2 hkv2).2.1 hk
theorem rwS (H : RIH N) (hN : (allL ks).length ≤ N) (hok : (Nd.mk k t ks).ok = true) {i : Nat} (hi : i < ks.length) (hk : 12 ≤ (ks.getD i nd0).kind ∧ (ks.getD i nd0).kind ≤ 19)
    (hd : d + N ≤ 1000000) (hb : (txt (ks.getD i nd0) d).length ≤ limit) : KidD 235 (d : Nat) ks kv i (txt (ks.getD i nd0) d) := by
  intro cs o k2 t2 p2 e2 kv2 ks2 _ hnd hkv2 _
  have h1 := ok_sub hok hi
  have h2 := kids_len (getD_mem hi)
  rw [hnd] at hk hb h1 h2 ⊢
  exact (H k2 t2 ks2 d (by omega) h1 hd hb p2 e2 kv2 hkv2).2.2 hk
theorem rwK (H : RIH N) (hkv : ndV kv = some ks) (hN : (allL ks).length ≤ N) (hok : (Nd.mk k t ks).ok = true) {i : Nat} (hi : i < ks.length) (hk : (ks.getD i nd0).kind = 4 ∨ (ks.getD i nd0).kind = 7 ∨ (ks.getD i nd0).kind = 8 ∨ (ks.getD i nd0).kind = 9 ∨ (ks.getD i nd0).kind = 10 ∨ 20 ≤ (ks.getD i nd0).kind ∧ (ks.getD i nd0).kind ≤ 29)
    (hd : d + N ≤ 1000000) (hb : (kidT k t i (ks.getD i nd0) (txt (ks.getD i nd0) d)).length ≤ limit) :
    Call C2 231 [.agg (kid5 k t p e kv), .int .i64 i] ⟨0, []⟩ = some (.str (kidT k t i (ks.getD i nd0) (txt (ks.getD i nd0) d)), ⟨0, []⟩) :=
  kid_r hkv hi (rwX H hN hok hi hk hd (Nat.le_trans kidT_len hb)) hb
theorem rwW (H : RIH N) (hN : (allL ks).length ≤ N) (hok : (Nd.mk k t ks).ok = true) {i : Nat} (hi : i < ks.length) (hk : (ks.getD i nd0).kind = 0 ∨ (ks.getD i nd0).kind = 9 ∨ (ks.getD i nd0).kind = 10)
    (hd : d + N ≤ 1000000) (hb : (wrT (ks.getD i nd0) (txt (ks.getD i nd0) d)).length ≤ limit) : KidR 237 ks kv i (wrT (ks.getD i nd0) (txt (ks.getD i nd0) d)) := by
  intro cs o k2 t2 p2 e2 kv2 ks2 h1 hnd hkv2 hcut
  have hX := fun h0 hl => rwX (d := d) (kv := kv) H hN hok hi h0 hd hl cs o k2 t2 p2 e2 kv2 ks2 h1 hnd hkv2 hcut
  rw [hnd] at hX hk hb ⊢
  refine typed_r hkv2 (fun h0 => hX ?_ ?_) hb
  · have h0' : (Nd.mk k2 t2 ks2).kind ≠ 0 := h0
    omega
  · unfold wrT at hb
    have h0' : (Nd.mk k2 t2 ks2).kind ≠ 0 := h0
    simp only [h0', if_false, List.length_append] at hb
    omega
theorem rwA (H : RIH N) (hkv : ndV kv = some ks) (hN : (allL ks).length ≤ N) (hok : (Nd.mk k t ks).ok = true) (hki : ∀ i, i < ks.length → (ks.getD i nd0).kind = 4 ∨ (ks.getD i nd0).kind = 7 ∨ (ks.getD i nd0).kind = 8 ∨ (ks.getD i nd0).kind = 9 ∨ (ks.getD i nd0).kind = 10 ∨ 20 ≤ (ks.getD i nd0).kind ∧ (ks.getD i nd0).kind ≤ 29)
    (hd : d + N ≤ 1000000) (hb : (allT k t ks (txtL ks d)).length ≤ limit) : Call C2 233 [.agg (kid5 k t p e kv)] ⟨0, []⟩ = some (.str (allT k t ks (txtL ks d)), ⟨0, []⟩) := by
  rw [allT_range] at hb ⊢
  refine list_r hkv (fun i hi => rwK H hkv hN hok hi (hki i hi) hd ?_) hb
  refine Nat.le_trans (join_len ?_) hb
  exact List.mem_map.2 ⟨i, List.mem_range'_1.2 (by omega), rfl⟩


theorem rr_29 (H : RIH N) (hkv : ndV kv = some ks) (hN : (allL ks).length ≤ N) (hd : d + N + 1 ≤ 1000000) (hok : (Nd.mk 29 t ks).ok = true) (hlen : (txt (.mk 29 t ks) d).length ≤ limit) :
    Call C2 236 [.agg (kid5 29 t p e kv)] ⟨0, []⟩ = some (.str (txt (.mk 29 t ks) d), ⟨0, []⟩) := by
  obtain ⟨s, hs, htx, hl, _⟩ := ok_parts hok
  cases hs
  have hl : ks.length = 2 := of_decide_eq_true hl
  obtain ⟨q0, hq0, ht0⟩ := ok_kid hok (i := 0) (by omega)
  cases hq0
  have g0 := kp_expr ht0
  have a0 := txtL_get ks d 0 (by omega)
  obtain ⟨q1, hq1, ht1⟩ := ok_kid hok (i := 1) (by omega)
  cases hq1
  have g1 := kp_expr ht1
  have a1 := txtL_get ks d 1 (by omega)
  have e1 : txt (.mk 29 t ks) d = [kidT 29 t ((0 : Nat) : Int) (ks.getD 0 nd0) (txt (ks.getD 0 nd0) d), [32], t, [32], kidT 29 t ((1 : Nat) : Int) (ks.getD 1 nd0) (txt (ks.getD 1 nd0) d)].flatten := by
    show form 29 t d ks (txtL ks d) = _
    rw [← a0, ← a1]
    rfl
  rw [e1] at hlen ⊢
  exact r_29 hkv (rwK H hkv hN hok (i := 0) (by omega) (by omega) (by omega) (by simp only [List.flatten_cons, List.flatten_nil, List.length_append] at hlen; omega)) (rwK H hkv hN hok (i := 1) (by omega) (by omega) (by omega) (by simp only [List.flatten_cons, List.flatten_nil, List.length_append] at hlen; omega)) hlen
theorem rr_21 (H : RIH N) (hkv : ndV kv = some ks) (hN : (allL ks).length ≤ N) (hd : d + N + 1 ≤ 1000000) (hok : (Nd.mk 21 t ks).ok = true) (hlen : (txt (.mk 21 t ks) d).length ≤ limit) :
    Call C2 236 [.agg (kid5 21 t p e kv)] ⟨0, []⟩ = some (.str (txt (.mk 21 t ks) d), ⟨0, []⟩) := by
  obtain ⟨s, hs, htx, hl, _⟩ := ok_parts hok
  cases hs
  have hl : ks.length = 2 := of_decide_eq_true hl
  obtain ⟨q0, hq0, ht0⟩ := ok_kid hok (i := 0) (by omega)
  cases hq0
  have g0 := kp_one1 ht0
  have a0 := txtL_get ks d 0 (by omega)
  obtain ⟨q1, hq1, ht1⟩ := ok_kid hok (i := 1) (by omega)
  cases hq1
  have g1 := kp_expr ht1
  have a1 := txtL_get ks d 1 (by omega)
  have e1 : txt (.mk 21 t ks) d = [kidT 21 t ((0 : Nat) : Int) (ks.getD 0 nd0) (txt (ks.getD 0 nd0) d), [91], kidT 21 t ((1 : Nat) : Int) (ks.getD 1 nd0) (txt (ks.getD 1 nd0) d), [93]].flatten := by
    show form 21 t d ks (txtL ks d) = _
    rw [← a0, ← a1]
    rfl
  rw [e1] at hlen ⊢
  exact r_21 hkv (rwK H hkv hN hok (i := 0) (by omega) (by omega) (by omega) (by simp only [List.flatten_cons, List.flatten_nil, List.length_append] at hlen; omega)) (rwK H hkv hN hok (i := 1) (by omega) (by omega) (by omega) (by simp only [List.flatten_cons, List.flatten_nil, List.length_append] at hlen; omega)) hlen
theorem rr_22 (H : RIH N) (hkv : ndV kv = some ks) (hN : (allL ks).length ≤ N) (hd : d + N + 1 ≤ 1000000) (hok : (Nd.mk 22 t ks).ok = true) (hlen : (txt (.mk 22 t ks) d).length ≤ limit) :
    Call C2 236 [.agg (kid5 22 t p e kv)] ⟨0, []⟩ = some (.str (txt (.mk 22 t ks) d), ⟨0, []⟩) := by
  obtain ⟨s, hs, htx, hl, _⟩ := ok_parts hok
  cases hs
  have hl : ks.length = 1 := of_decide_eq_true hl
  obtain ⟨q0, hq0, ht0⟩ := ok_kid hok (i := 0) (by omega)
  cases hq0
  have g0 := kp_one1 ht0
  have a0 := txtL_get ks d 0 (by omega)
  have e1 : txt (.mk 22 t ks) d = [kidT 22 t ((0 : Nat) : Int) (ks.getD 0 nd0) (txt (ks.getD 0 nd0) d), [46], t].flatten := by
    show form 22 t d ks (txtL ks d) = _
    rw [← a0]
    rfl
  rw [e1] at hlen ⊢
  exact r_22 hkv (rwK H hkv hN hok (i := 0) (by omega) (by omega) (by omega) (by simp only [List.flatten_cons, List.flatten_nil, List.length_append] at hlen; omega)) hlen
theorem rr_23 (H : RIH N) (hkv : ndV kv = some ks) (hN : (allL ks).length ≤ N) (hd : d + N + 1 ≤ 1000000) (hok : (Nd.mk 23 t ks).ok = true) (hlen : (txt (.mk 23 t ks) d).length ≤ limit) :
    Call C2 236 [.agg (kid5 23 t p e kv)] ⟨0, []⟩ = some (.str (txt (.mk 23 t ks) d), ⟨0, []⟩) := by
  obtain ⟨s, hs, htx, hl, _⟩ := ok_parts hok
  cases hs
  have hl : ks.length = 1 := of_decide_eq_true hl
  obtain ⟨q0, hq0, ht0⟩ := ok_kid hok (i := 0) (by omega)
  cases hq0
  have g0 := kp_one1 ht0
  have a0 := txtL_get ks d 0 (by omega)
  have e1 : txt (.mk 23 t ks) d = [[108, 101, 110, 40], kidT 23 t ((0 : Nat) : Int) (ks.getD 0 nd0) (txt (ks.getD 0 nd0) d), [41]].flatten := by
    show form 23 t d ks (txtL ks d) = _
    rw [← a0]
    rfl
  rw [e1] at hlen ⊢
  exact r_23 hkv (rwK H hkv hN hok (i := 0) (by omega) (by omega) (by omega) (by simp only [List.flatten_cons, List.flatten_nil, List.length_append] at hlen; omega)) hlen
theorem rr_4 (H : RIH N) (hkv : ndV kv = some ks) (hN : (allL ks).length ≤ N) (hd : d + N + 1 ≤ 1000000) (hok : (Nd.mk 4 t ks).ok = true) (hlen : (txt (.mk 4 t ks) d).length ≤ limit) :
    Call C2 236 [.agg (kid5 4 t p e kv)] ⟨0, []⟩ = some (.str (txt (.mk 4 t ks) d), ⟨0, []⟩) := by
  obtain ⟨s, hs, htx, hl, _⟩ := ok_parts hok
  cases hs
  have hl : ks.length = 1 := of_decide_eq_true hl
  obtain ⟨q0, hq0, ht0⟩ := ok_kid hok (i := 0) (by omega)
  cases hq0
  have g0 := kp_one1 ht0
  have a0 := txtL_get ks d 0 (by omega)
  have e1 : txt (.mk 4 t ks) d = [t, wrT (ks.getD 0 nd0) (txt (ks.getD 0 nd0) d)].flatten := by
    show form 4 t d ks (txtL ks d) = _
    rw [← a0]
    rfl
  rw [e1] at hlen ⊢
  exact r_4 hkv (rwW H hN hok (i := 0) (by omega) (by omega) (by omega) (by simp only [List.flatten_cons, List.flatten_nil, List.length_append] at hlen; omega)) (by omega) hlen
theorem rr_7 (H : RIH N) (hkv : ndV kv = some ks) (hN : (allL ks).length ≤ N) (hd : d + N + 1 ≤ 1000000) (hok : (Nd.mk 7 t ks).ok = true) (hlen : (txt (.mk 7 t ks) d).length ≤ limit) :
    Call C2 236 [.agg (kid5 7 t p e kv)] ⟨0, []⟩ = some (.str (txt (.mk 7 t ks) d), ⟨0, []⟩) := by
  obtain ⟨s, hs, htx, hl, _⟩ := ok_parts hok
  cases hs
  have hl : ks.length = 1 := of_decide_eq_true hl
  obtain ⟨q0, hq0, ht0⟩ := ok_kid hok (i := 0) (by omega)
  cases hq0
  have g0 := (kp_opt ht0).imp id kp_typ
  have a0 := txtL_get ks d 0 (by omega)
  have e1 : txt (.mk 7 t ks) d = [t, wrT (ks.getD 0 nd0) (txt (ks.getD 0 nd0) d)].flatten := by
    show form 7 t d ks (txtL ks d) = _
    rw [← a0]
    rfl
  rw [e1] at hlen ⊢
  exact r_7 hkv (rwW H hN hok (i := 0) (by omega) (by omega) (by omega) (by simp only [List.flatten_cons, List.flatten_nil, List.length_append] at hlen; omega)) (by omega) hlen
theorem rr_8 (H : RIH N) (hkv : ndV kv = some ks) (hN : (allL ks).length ≤ N) (hd : d + N + 1 ≤ 1000000) (hok : (Nd.mk 8 t ks).ok = true) (hlen : (txt (.mk 8 t ks) d).length ≤ limit) :
    Call C2 236 [.agg (kid5 8 t p e kv)] ⟨0, []⟩ = some (.str (txt (.mk 8 t ks) d), ⟨0, []⟩) := by
  obtain ⟨s, hs, htx, hl, _⟩ := ok_parts hok
  cases hs
  have hl : ks.length = 1 := of_decide_eq_true hl
  obtain ⟨q0, hq0, ht0⟩ := ok_kid hok (i := 0) (by omega)
  cases hq0
  have g0 := (kp_opt ht0).imp id kp_typ
  have a0 := txtL_get ks d 0 (by omega)
  have e1 : txt (.mk 8 t ks) d = [[118, 97, 114, 32], t, wrT (ks.getD 0 nd0) (txt (ks.getD 0 nd0) d)].flatten := by
    show form 8 t d ks (txtL ks d) = _
    rw [← a0]
    show [_, [_, _].flatten].flatten = _
    simp
  rw [e1] at hlen ⊢
  exact r_8 hkv (rwW H hN hok (i := 0) (by omega) (by omega) (by omega) (by simp only [List.flatten_cons, List.flatten_nil, List.length_append] at hlen; omega)) (by omega) hlen
theorem rr_18 (H : RIH N) (hkv : ndV kv = some ks) (hN : (allL ks).length ≤ N) (hd : d + N + 1 ≤ 1000000) (hok : (Nd.mk 18 t ks).ok = true) (hlen : (txt (.mk 18 t ks) d).length ≤ limit) :
    Call C2 235 [.agg (kid5 18 t p e kv), .int .i64 d] ⟨0, []⟩ = some (.str (txt (.mk 18 t ks) d), ⟨0, []⟩) := by
  obtain ⟨s, hs, htx, hl, _⟩ := ok_parts hok
  cases hs
  have hl : ks.length = 1 := of_decide_eq_true hl
  obtain ⟨q0, hq0, ht0⟩ := ok_kid hok (i := 0) (by omega)
  cases hq0
  have g0 := kp_expr ht0
  have a0 := txtL_get ks d 0 (by omega)
  have e1 : txt (.mk 18 t ks) d = [[97, 115, 115, 101, 114, 116, 32], kidT 18 t ((0 : Nat) : Int) (ks.getD 0 nd0) (txt (ks.getD 0 nd0) d), [59]].flatten := by
    show form 18 t d ks (txtL ks d) = _
    rw [← a0]
    rfl
  rw [e1] at hlen ⊢
  exact r_18 hkv (rwK H hkv hN hok (i := 0) (by omega) (by omega) (by omega) (by simp only [List.flatten_cons, List.flatten_nil, List.length_append] at hlen; omega)) hlen
theorem rr_15 (H : RIH N) (hkv : ndV kv = some ks) (hN : (allL ks).length ≤ N) (hd : d + N + 1 ≤ 1000000) (hok : (Nd.mk 15 t ks).ok = true) (hlen : (txt (.mk 15 t ks) d).length ≤ limit) :
    Call C2 235 [.agg (kid5 15 t p e kv), .int .i64 d] ⟨0, []⟩ = some (.str (txt (.mk 15 t ks) d), ⟨0, []⟩) := by
  obtain ⟨s, hs, htx, hl, _⟩ := ok_parts hok
  cases hs
  have hl : ks.length = 2 := of_decide_eq_true hl
  obtain ⟨q0, hq0, ht0⟩ := ok_kid hok (i := 0) (by omega)
  cases hq0
  have g0 := kp_expr ht0
  have a0 := txtL_get ks d 0 (by omega)
  obtain ⟨q1, hq1, ht1⟩ := ok_kid hok (i := 1) (by omega)
  cases hq1
  have g1 := kp_one1 ht1
  have a1 := txtL_get ks d 1 (by omega)
  have e1 : txt (.mk 15 t ks) d = [[119, 104, 105, 108, 101, 32], kidT 15 t ((0 : Nat) : Int) (ks.getD 0 nd0) (txt (ks.getD 0 nd0) d), [32], txt (ks.getD 1 nd0) d].flatten := by
    show form 15 t d ks (txtL ks d) = _
    rw [← a0, ← a1]
    rfl
  rw [e1] at hlen ⊢
  exact r_15 hkv (rwK H hkv hN hok (i := 0) (by omega) (by omega) (by omega) (by simp only [List.flatten_cons, List.flatten_nil, List.length_append] at hlen; omega)) (rwB H hN hok (i := 1) (by omega) (by omega) (by omega) (by simp only [List.flatten_cons, List.flatten_nil, List.length_append] at hlen; omega)) (by omega) hlen
theorem rr_16 (H : RIH N) (hkv : ndV kv = some ks) (hN : (allL ks).length ≤ N) (hd : d + N + 1 ≤ 1000000) (hok : (Nd.mk 16 t ks).ok = true) (hlen : (txt (.mk 16 t ks) d).length ≤ limit) :
    Call C2 235 [.agg (kid5 16 t p e kv), .int .i64 d] ⟨0, []⟩ = some (.str (txt (.mk 16 t ks) d), ⟨0, []⟩) := by
  obtain ⟨s, hs, htx, hl, _⟩ := ok_parts hok
  cases hs
  have hl : ks.length = 3 := of_decide_eq_true hl
  obtain ⟨q0, hq0, ht0⟩ := ok_kid hok (i := 0) (by omega)
  cases hq0
  have g0 := kp_expr ht0
  have a0 := txtL_get ks d 0 (by omega)
  obtain ⟨q1, hq1, ht1⟩ := ok_kid hok (i := 1) (by omega)
  cases hq1
  have g1 := kp_expr ht1
  have a1 := txtL_get ks d 1 (by omega)
  obtain ⟨q2, hq2, ht2⟩ := ok_kid hok (i := 2) (by omega)
  cases hq2
  have g2 := kp_one1 ht2
  have a2 := txtL_get ks d 2 (by omega)
  have e1 : txt (.mk 16 t ks) d = [[102, 111, 114, 32], t, [32, 61, 32], kidT 16 t ((0 : Nat) : Int) (ks.getD 0 nd0) (txt (ks.getD 0 nd0) d), [32, 116, 111, 32], kidT 16 t ((1 : Nat) : Int) (ks.getD 1 nd0) (txt (ks.getD 1 nd0) d), [32], txt (ks.getD 2 nd0) d].flatten := by
    show form 16 t d ks (txtL ks d) = _
    rw [← a0, ← a1, ← a2]
    rfl
  rw [e1] at hlen ⊢
  exact r_16 hkv (rwK H hkv hN hok (i := 0) (by omega) (by omega) (by omega) (by simp only [List.flatten_cons, List.flatten_nil, List.length_append] at hlen; omega)) (rwK H hkv hN hok (i := 1) (by omega) (by omega) (by omega) (by simp only [List.flatten_cons, List.flatten_nil, List.length_append] at hlen; omega)) (rwB H hN hok (i := 2) (by omega) (by omega) (by omega) (by simp only [List.flatten_cons, List.flatten_nil, List.length_append] at hlen; omega)) (by omega) hlen
theorem rr_12 (H : RIH N) (hkv : ndV kv = some ks) (hN : (allL ks).length ≤ N) (hd : d + N + 1 ≤ 1000000) (hok : (Nd.mk 12 t ks).ok = true) (hlen : (txt (.mk 12 t ks) d).length ≤ limit) :
    Call C2 235 [.agg (kid5 12 t p e kv), .int .i64 d] ⟨0, []⟩ = some (.str (txt (.mk 12 t ks) d), ⟨0, []⟩) := by
  obtain ⟨s, hs, htx, hl, _⟩ := ok_parts hok
  cases hs
  have hl : ks.length = 2 := of_decide_eq_true hl
  obtain ⟨q0, hq0, ht0⟩ := ok_kid hok (i := 0) (by omega)
  cases hq0
  have g0 := (kp_opt ht0).imp id kp_typ
  have a0 := txtL_get ks d 0 (by omega)
  obtain ⟨q1, hq1, ht1⟩ := ok_kid hok (i := 1) (by omega)
  cases hq1
  have g1 := kp_expr ht1
  have a1 := txtL_get ks d 1 (by omega)
  have e1 : txt (.mk 12 t ks) d = [[118, 97, 114, 32], t, wrT (ks.getD 0 nd0) (txt (ks.getD 0 nd0) d), [32, 61, 32], kidT 12 t ((1 : Nat) : Int) (ks.getD 1 nd0) (txt (ks.getD 1 nd0) d), [59]].flatten := by
    show form 12 t d ks (txtL ks d) = _
    rw [← a0, ← a1]
    rfl
  rw [e1] at hlen ⊢
  exact r_12 hkv (rwW H hN hok (i := 0) (by omega) (by omega) (by omega) (by simp only [List.flatten_cons, List.flatten_nil, List.length_append] at hlen; omega)) (rwK H hkv hN hok (i := 1) (by omega) (by omega) (by omega) (by simp only [List.flatten_cons, List.flatten_nil, List.length_append] at hlen; omega)) (by omega) hlen
theorem rr_13 (H : RIH N) (hkv : ndV kv = some ks) (hN : (allL ks).length ≤ N) (hd : d + N + 1 ≤ 1000000) (hok : (Nd.mk 13 t ks).ok = true) (hlen : (txt (.mk 13 t ks) d).length ≤ limit) :
    Call C2 235 [.agg (kid5 13 t p e kv), .int .i64 d] ⟨0, []⟩ = some (.str (txt (.mk 13 t ks) d), ⟨0, []⟩) := by
  obtain ⟨s, hs, htx, hl, _⟩ := ok_parts hok
  cases hs
  have hl : ks.length = 2 := of_decide_eq_true hl
  obtain ⟨q0, hq0, ht0⟩ := ok_kid hok (i := 0) (by omega)
  cases hq0
  have g0 := kp_place ht0
  have a0 := txtL_get ks d 0 (by omega)
  obtain ⟨q1, hq1, ht1⟩ := ok_kid hok (i := 1) (by omega)
  cases hq1
  have g1 := kp_expr ht1
  have a1 := txtL_get ks d 1 (by omega)
  have e1 : txt (.mk 13 t ks) d = [kidT 13 t ((0 : Nat) : Int) (ks.getD 0 nd0) (txt (ks.getD 0 nd0) d), [32, 61, 32], kidT 13 t ((1 : Nat) : Int) (ks.getD 1 nd0) (txt (ks.getD 1 nd0) d), [59]].flatten := by
    show form 13 t d ks (txtL ks d) = _
    rw [← a0, ← a1]
    rfl
  rw [e1] at hlen ⊢
  exact r_13 hkv (rwK H hkv hN hok (i := 0) (by omega) (by omega) (by omega) (by simp only [List.flatten_cons, List.flatten_nil, List.length_append] at hlen; omega)) (rwK H hkv hN hok (i := 1) (by omega) (by omega) (by omega) (by simp only [List.flatten_cons, List.flatten_nil, List.length_append] at hlen; omega)) hlen
theorem rr_9 : Call C2 236 [.agg (kid5 9 t p e kv)] ⟨0, []⟩ = some (.str (txt (.mk 9 t ks) d), ⟨0, []⟩) := r_word (by simp)
theorem rr_20 : Call C2 236 [.agg (kid5 20 t p e kv)] ⟨0, []⟩ = some (.str (txt (.mk 20 t ks) d), ⟨0, []⟩) := r_word (by simp)
theorem rr_24 : Call C2 236 [.agg (kid5 24 t p e kv)] ⟨0, []⟩ = some (.str (txt (.mk 24 t ks) d), ⟨0, []⟩) := r_word (by simp)
theorem rr_25 : Call C2 236 [.agg (kid5 25 t p e kv)] ⟨0, []⟩ = some (.str (txt (.mk 25 t ks) d), ⟨0, []⟩) := r_word (by simp)
theorem rr_10 (hkv : ndV kv = some ks) (hlen : (txt (.mk 10 t ks) d).length ≤ limit) : Call C2 236 [.agg (kid5 10 t p e kv)] ⟨0, []⟩ = some (.str (txt (.mk 10 t ks) d), ⟨0, []⟩) := r_10 hkv hlen
theorem rr_26 (H : RIH N) (hkv : ndV kv = some ks) (hN : (allL ks).length ≤ N) (hd : d + N + 1 ≤ 1000000) (hok : (Nd.mk 26 t ks).ok = true) (hlen : (txt (.mk 26 t ks) d).length ≤ limit) :
    Call C2 236 [.agg (kid5 26 t p e kv)] ⟨0, []⟩ = some (.str (txt (.mk 26 t ks) d), ⟨0, []⟩) := by
  have e1 : txt (.mk 26 t ks) d = [[91], allT 26 t ks (txtL ks d), [93]].flatten := rfl
  rw [e1] at hlen ⊢
  exact r_26 hkv (rwA H hkv hN hok (fun i hi => by have := kp_expr (list_kinds (q := .expr) hok (fun _ => rfl) i hi); omega) (by omega) (by simp only [List.flatten_cons, List.flatten_nil, List.length_append] at hlen; omega)) hlen
theorem rr_27 (H : RIH N) (hkv : ndV kv = some ks) (hN : (allL ks).length ≤ N) (hd : d + N + 1 ≤ 1000000) (hok : (Nd.mk 27 t ks).ok = true) (hlen : (txt (.mk 27 t ks) d).length ≤ limit) :
    Call C2 236 [.agg (kid5 27 t p e kv)] ⟨0, []⟩ = some (.str (txt (.mk 27 t ks) d), ⟨0, []⟩) := by
  have e1 : txt (.mk 27 t ks) d = [t, [40], allT 27 t ks (txtL ks d), [41]].flatten := rfl
  rw [e1] at hlen ⊢
  exact r_27 hkv (rwA H hkv hN hok (fun i hi => by have := kp_expr (list_kinds (q := .expr) hok (fun _ => rfl) i hi); omega) (by omega) (by simp only [List.flatten_cons, List.flatten_nil, List.length_append] at hlen; omega)) hlen
theorem rr_19 (H : RIH N) (hkv : ndV kv = some ks) (hN : (allL ks).length ≤ N) (hd : d + N + 1 ≤ 1000000) (hok : (Nd.mk 19 t ks).ok = true) (hlen : (txt (.mk 19 t ks) d).length ≤ limit) :
    Call C2 235 [.agg (kid5 19 t p e kv), .int .i64 d] ⟨0, []⟩ = some (.str (txt (.mk 19 t ks) d), ⟨0, []⟩) := by
  have e1 : txt (.mk 19 t ks) d = [t, [40], allT 19 t ks (txtL ks d), [41, 59]].flatten := by
    show [[t, [40], allT 19 t ks (txtL ks d), [41]].flatten, [59]].flatten = _
    simp
  rw [e1] at hlen ⊢
  exact r_19 hkv (rwA H hkv hN hok (fun i hi => by have := kp_expr (list_kinds (q := .expr) hok (fun _ => rfl) i hi); omega) (by omega) (by simp only [List.flatten_cons, List.flatten_nil, List.length_append] at hlen; omega)) hlen
theorem rr_3 (H : RIH N) (hkv : ndV kv = some ks) (hN : (allL ks).length ≤ N) (hd : 0 + N + 1 ≤ 1000000) (hok : (Nd.mk 3 t ks).ok = true) (hlen : (txt (.mk 3 t ks) 0).length ≤ limit) :
    Call C2 229 [.agg (kid5 3 t p e kv)] ⟨0, []⟩ = some (.str (txt (.mk 3 t ks) 0), ⟨0, []⟩) := by
  have e1 : txt (.mk 3 t ks) 0 = [[114, 101, 99, 111, 114, 100, 32], t, [32, 123, 32], allT 3 t ks (txtL ks 0), [32, 125]].flatten := rfl
  rw [e1] at hlen ⊢
  exact r_3 hkv (rwA H hkv hN hok (fun i hi => by have := kp_one1 (list_kinds (q := (.one [4])) hok (fun _ => rfl) i hi); omega) (by omega) (by simp only [List.flatten_cons, List.flatten_nil, List.length_append] at hlen; omega)) hlen
theorem rr_28 (H : RIH N) (hkv : ndV kv = some ks) (hN : (allL ks).length ≤ N) (hd : d + N + 1 ≤ 1000000) (hok : (Nd.mk 28 t ks).ok = true) (hlen : (txt (.mk 28 t ks) d).length ≤ limit) :
    Call C2 236 [.agg (kid5 28 t p e kv)] ⟨0, []⟩ = some (.str (txt (.mk 28 t ks) d), ⟨0, []⟩) := by
  obtain ⟨s, hs, htx, hl, _⟩ := ok_parts hok
  cases hs
  have hl : ks.length = 1 := of_decide_eq_true hl
  obtain ⟨q0, hq0, ht0⟩ := ok_kid hok (i := 0) (by omega)
  cases hq0
  have g0 := kp_expr ht0
  have a0 := txtL_get ks d 0 (by omega)
  have e1 : txt (.mk 28 t ks) d = if t = [110, 111, 116] then [[110, 111, 116, 32], kidT 28 t ((0 : Nat) : Int) (ks.getD 0 nd0) (txt (ks.getD 0 nd0) d)].flatten else [t, kidT 28 t ((0 : Nat) : Int) (ks.getD 0 nd0) (txt (ks.getD 0 nd0) d)].flatten := by
    show form 28 t d ks (txtL ks d) = _
    rw [← a0]
    rfl
  have htt : t = [110, 111, 116] ∨ t = [45] := by
    have h : ([[45], [110, 111, 116]] : List (List UInt8)).contains t = true := htx
    have h2 : t = [45] ∨ t = [110, 111, 116] := by simpa using h
    exact h2.symm
  rw [e1] at hlen ⊢
  exact r_28 hkv htt (rwK H hkv hN hok (i := 0) (by omega) (by omega) (by omega) (by split at hlen <;> simp only [List.flatten_cons, List.flatten_nil, List.length_append] at hlen <;> omega)) hlen
theorem rr_17 (H : RIH N) (hkv : ndV kv = some ks) (hN : (allL ks).length ≤ N) (hd : d + N + 1 ≤ 1000000) (hok : (Nd.mk 17 t ks).ok = true) (hlen : (txt (.mk 17 t ks) d).length ≤ limit) :
    Call C2 235 [.agg (kid5 17 t p e kv), .int .i64 d] ⟨0, []⟩ = some (.str (txt (.mk 17 t ks) d), ⟨0, []⟩) := by
  obtain ⟨s, hs, htx, hl, _⟩ := ok_parts hok
  cases hs
  have hl : ks.length = 1 := of_decide_eq_true hl
  obtain ⟨q0, hq0, ht0⟩ := ok_kid hok (i := 0) (by omega)
  cases hq0
  have g0 := (kp_opt ht0).imp id kp_expr
  have a0 := txtL_get ks d 0 (by omega)
  have e1 : txt (.mk 17 t ks) d = if (ks.getD 0 nd0).kind = 0 then [114, 101, 116, 117, 114, 110, 59] else [[114, 101, 116, 117, 114, 110, 32], kidT 17 t ((0 : Nat) : Int) (ks.getD 0 nd0) (txt (ks.getD 0 nd0) d), [59]].flatten := by
    show form 17 t d ks (txtL ks d) = _
    rw [← a0]
    rfl
  rw [e1] at hlen ⊢
  exact r_17 hkv (by omega) (fun h0 => rwK H hkv hN hok (i := 0) (by omega) (by omega) (by omega) (by rw [if_neg h0] at hlen; simp only [List.flatten_cons, List.flatten_nil, List.length_append] at hlen; omega)) hlen
theorem rr_14 (H : RIH N) (hkv : ndV kv = some ks) (hN : (allL ks).length ≤ N) (hd : d + N + 1 ≤ 1000000) (hok : (Nd.mk 14 t ks).ok = true) (hlen : (txt (.mk 14 t ks) d).length ≤ limit) :
    Call C2 235 [.agg (kid5 14 t p e kv), .int .i64 d] ⟨0, []⟩ = some (.str (txt (.mk 14 t ks) d), ⟨0, []⟩) := by
  obtain ⟨s, hs, htx, hl, _⟩ := ok_parts hok
  cases hs
  have hl : ks.length = 3 := of_decide_eq_true hl
  obtain ⟨q0, hq0, ht0⟩ := ok_kid hok (i := 0) (by omega)
  cases hq0
  have g0 := kp_expr ht0
  have a0 := txtL_get ks d 0 (by omega)
  obtain ⟨q1, hq1, ht1⟩ := ok_kid hok (i := 1) (by omega)
  cases hq1
  have g1 := kp_one1 ht1
  have a1 := txtL_get ks d 1 (by omega)
  obtain ⟨q2, hq2, ht2⟩ := ok_kid hok (i := 2) (by omega)
  cases hq2
  have g2 := (kp_opt ht2).imp id kp_one2
  have a2 := txtL_get ks d 2 (by omega)
  have e1 : txt (.mk 14 t ks) d = if (ks.getD 2 nd0).kind = 0 then [[105, 102, 32], kidT 14 t ((0 : Nat) : Int) (ks.getD 0 nd0) (txt (ks.getD 0 nd0) d), [32], txt (ks.getD 1 nd0) d].flatten else [[[105, 102, 32], kidT 14 t ((0 : Nat) : Int) (ks.getD 0 nd0) (txt (ks.getD 0 nd0) d), [32], txt (ks.getD 1 nd0) d].flatten, [32, 101, 108, 115, 101, 32], txt (ks.getD 2 nd0) d].flatten := by
    show form 14 t d ks (txtL ks d) = _
    rw [← a0, ← a1, ← a2]
    rfl
  rw [e1] at hlen ⊢
  have b0 : (kidT 14 t ((0 : Nat) : Int) (ks.getD 0 nd0) (txt (ks.getD 0 nd0) d)).length ≤ limit ∧ (txt (ks.getD 1 nd0) d).length ≤ limit ∧ ((ks.getD 2 nd0).kind ≠ 0 → (txt (ks.getD 2 nd0) d).length ≤ limit) := by
    by_cases h0 : (ks.getD 2 nd0).kind = 0
    · rw [if_pos h0] at hlen
      simp only [List.flatten_cons, List.flatten_nil, List.length_append] at hlen
      exact ⟨by omega, by omega, fun h => absurd h0 h⟩
    · rw [if_neg h0] at hlen
      simp only [List.flatten_cons, List.flatten_nil, List.length_append] at hlen
      exact ⟨by omega, by omega, fun _ => by omega⟩
  exact r_14 hkv (by omega) (rwK H hkv hN hok (i := 0) (by omega) (by omega) (by omega) b0.1) (rwB H hN hok (i := 1) (by omega) (by omega) (by omega) b0.2.1) g2 (fun h => rwB H hN hok (i := 2) (by omega) h (by omega) (b0.2.2 (by omega))) (fun h => rwS H hN hok (i := 2) (by omega) (by omega) (by omega) (b0.2.2 (by omega))) hlen
theorem rr_5 (H : RIH N) (hkv : ndV kv = some ks) (hN : (allL ks).length ≤ N) (hd : 0 + N + 1 ≤ 1000000) (hok : (Nd.mk 5 t ks).ok = true) (hlen : (txt (.mk 5 t ks) 0).length ≤ limit) :
    Call C2 229 [.agg (kid5 5 t p e kv)] ⟨0, []⟩ = some (.str (txt (.mk 5 t ks) 0), ⟨0, []⟩) := by
  obtain ⟨s, hs, htx, hl, _⟩ := ok_parts hok
  cases hs
  have hl : ks.length = 3 := of_decide_eq_true hl
  obtain ⟨q0, hq0, ht0⟩ := ok_kid hok (i := 0) (by omega)
  cases hq0
  have g0 := kp_one1 ht0
  have a0 := txtL_get ks 0 0 (by omega)
  obtain ⟨q1, hq1, ht1⟩ := ok_kid hok (i := 1) (by omega)
  cases hq1
  have g1 := (kp_opt ht1).imp id kp_typ
  have a1 := txtL_get ks 0 1 (by omega)
  obtain ⟨q2, hq2, ht2⟩ := ok_kid hok (i := 2) (by omega)
  cases hq2
  have g2 := kp_one1 ht2
  have a2 := txtL_get ks 0 2 (by omega)
  have e1 : txt (.mk 5 t ks) 0 = [[112, 114, 111, 99, 32], t, [40], txt (ks.getD 0 nd0) 0, [41], wrT (ks.getD 1 nd0) (txt (ks.getD 1 nd0) 0), [32], txt (ks.getD 2 nd0) 0].flatten := by
    show form 5 t 0 ks (txtL ks 0) = _
    rw [← a0, ← a1, ← a2]
    rfl
  rw [e1] at hlen ⊢
  have hb0 : (txt (ks.getD 0 nd0) 0).length ≤ limit := (by simp only [List.flatten_cons, List.flatten_nil, List.length_append] at hlen; omega)
  have hA0 : KidR 233 ks kv 0 (txt (ks.getD 0 nd0) 0) := by
    intro cs o k2 t2 p2 e2 kv2 ks2 _ hnd hkv2 _
    have h1 := ok_sub hok (i := 0) (by omega)
    have h2 := kids_len (getD_mem (ks := ks) (i := 0) (by omega))
    rw [hnd] at g0 h1 h2 hb0 ⊢
    have g0 : k2 = 6 := g0
    subst g0
    simp only [Nd.all, List.length_cons] at h2
    exact rwA (d := 0) H hkv2 (by omega) h1 (fun i hi => by have := kp_one2 (list_kinds (q := .one [7, 8]) h1 (fun _ => rfl) i hi); omega) (by omega) hb0
  exact r_5 hkv hA0 (rwW H hN hok (i := 1) (by omega) (by omega) (by omega) (by simp only [List.flatten_cons, List.flatten_nil, List.length_append] at hlen; omega)) (rwB (d := 0) H hN hok (i := 2) (by omega) (by omega) (by omega) (by simp only [List.flatten_cons, List.flatten_nil, List.length_append] at hlen; omega)) (by omega) hlen
theorem rr_11 (H : RIH N) (hkv : ndV kv = some ks) (hN : (allL ks).length ≤ N) (hd : d + N + 1 ≤ 1000000) (hok : (Nd.mk 11 t ks).ok = true) (hlen : (txt (.mk 11 t ks) d).length ≤ limit) :
    Call C2 228 [.agg (kid5 11 t p e kv), .int .i64 d] ⟨0, []⟩ = some (.str (txt (.mk 11 t ks) d), ⟨0, []⟩) := by
  have e1 : txt (.mk 11 t ks) d = [123, 10] ++ (((List.range' 0 ks.length).flatMap fun i => lineT d (txt (ks.getD i nd0) (d + 1))) ++ [indT d, [125]].flatten) := by
    show form 11 t d ks (txtL ks (d + 1)) = _
    show [123, 10] ++ (((txtL ks (d + 1)).flatMap fun s => indT (d + 1) ++ (s ++ [10])) ++ (indT d ++ [125])) = _
    rw [flatMap_range]
    simp [lineT]
  rw [e1] at hlen ⊢
  refine r_11 hkv (by omega) (fun i hi => ?_) hlen
  have g := kp_stmt (list_kinds (q := .stmt) hok (fun _ => rfl) i hi)
  refine rwS (d := d + 1) H hN hok hi (by omega) (by omega) ?_
  have hm := flatMap_len (g := fun i => lineT d (txt (ks.getD i nd0) (d + 1))) (List.mem_range'_1.2 (⟨Nat.zero_le i, by omega⟩ : 0 ≤ i ∧ i < 0 + ks.length))
  simp only [List.length_append] at hlen
  simp only [lineT, List.flatten_cons, List.length_append] at hm hlen
  omega

/-- What the reference writes. -/
theorem ref_is : ∀ N, RIH N
  | 0, k, t, ks, _, h, _, _, _ => by have := all_pos (.mk k t ks); omega
  | N + 1, k, t, ks, d, h, hok, hd, hlen => by
    intro p e kv hkv
    have H := ref_is N
    simp only [Nd.all, List.length_cons] at h
    have hN : (allL ks).length ≤ N := by omega
    have hd : d + N + 1 ≤ 1000000 := by omega
    refine ⟨fun hk => ?_, fun hk => ?_, fun hk => ?_⟩
    · have hk : k = 4 ∨ k = 7 ∨ k = 8 ∨ k = 9 ∨ k = 10 ∨ k = 20 ∨ k = 21 ∨ k = 22 ∨ k = 23 ∨ k = 24 ∨ k = 25 ∨ k = 26 ∨ k = 27 ∨ k = 28 ∨ k = 29 := by omega
      rcases hk with rfl | rfl | rfl | rfl | rfl | rfl | rfl | rfl | rfl | rfl | rfl | rfl | rfl | rfl | rfl
      · exact rr_4 H hkv hN hd hok hlen
      · exact rr_7 H hkv hN hd hok hlen
      · exact rr_8 H hkv hN hd hok hlen
      · exact rr_9
      · exact rr_10 hkv hlen
      · exact rr_20
      · exact rr_21 H hkv hN hd hok hlen
      · exact rr_22 H hkv hN hd hok hlen
      · exact rr_23 H hkv hN hd hok hlen
      · exact rr_24
      · exact rr_25
      · exact rr_26 H hkv hN hd hok hlen
      · exact rr_27 H hkv hN hd hok hlen
      · exact rr_28 H hkv hN hd hok hlen
      · exact rr_29 H hkv hN hd hok hlen
    · subst hk; exact rr_11 H hkv hN hd hok hlen
    · have hk : k = 12 ∨ k = 13 ∨ k = 14 ∨ k = 15 ∨ k = 16 ∨ k = 17 ∨ k = 18 ∨ k = 19 := by omega
      rcases hk with rfl | rfl | rfl | rfl | rfl | rfl | rfl | rfl
      · exact rr_12 H hkv hN hd hok hlen
      · exact rr_13 H hkv hN hd hok hlen
      · exact rr_14 H hkv hN hd hok hlen
      · exact rr_15 H hkv hN hd hok hlen
      · exact rr_16 H hkv hN hd hok hlen
      · exact rr_17 H hkv hN hd hok hlen
      · exact rr_18 H hkv hN hd hok hlen
      · exact rr_19 H hkv hN hd hok hlen
end
end Go.Proofs.YtdhgdpokdhjanaaGreat.Abs
/- The canonical text is not too long. -/
namespace Go.Proofs.YtdhgdpokdhjanaaGreat.Abs
open Go

/-- The lengths of texts, with what may stand around them. -/
def sumW (w : Nat) : List (List UInt8) → Nat
  | [] => 0
  | s :: r => s.length + w + sumW w r
theorem sumW_three (w : Nat) (ss : List (List UInt8)) : (ss.getD 0 []).length + (ss.getD 1 []).length + (ss.getD 2 []).length ≤ sumW w ss := by
  match ss with
  | [] => simp [sumW]
  | [a] => simp [sumW]
  | [a, b] => simp [sumW]; omega
  | a :: b :: c :: r => simp [sumW]; omega
theorem kidT_le {k : Int} {t : List UInt8} {i : Int} {n : Nd} {s : List UInt8} : (kidT k t i n s).length ≤ s.length + 2 := by
  cases h : parB k t i n.kind n.text
  · rw [kidT_f h]; omega
  · rw [kidT_t h]; simp only [List.length_append, List.length_cons, List.length_nil]; omega
theorem wrT_le {n : Nd} {s : List UInt8} : (wrT n s).length ≤ s.length + 2 := by
  unfold wrT
  split
  · simp
  · simp only [List.length_append, List.length_cons, List.length_nil]; omega
theorem tail_le {k : Int} {t : List UInt8} {w : Nat} (hw : 4 ≤ w) : ∀ (r : List Nd) (q : List (List UInt8)) (i : Nat), (Lib.joinTail [44, 32] (kidsT k t i r q)).length ≤ sumW w q
  | [], _, _ => by simp [kidsT, Lib.joinTail]
  | _ :: _, [], _ => by simp [kidsT, Lib.joinTail]
  | n :: r, s :: q, i => by
    have ih := tail_le hw (k := k) (t := t) r q (i + 1)
    have := kidT_le (k := k) (t := t) (i := i) (n := n) (s := s)
    unfold Lib.joinTail at ih ⊢
    simp only [kidsT, List.map_cons, List.flatten_cons, List.length_append, List.length_cons, List.length_nil, sumW]
    omega
theorem allT_le {k : Int} {t : List UInt8} {w : Nat} (hw : 4 ≤ w) (ks : List Nd) (ss : List (List UInt8)) : (allT k t ks ss).length ≤ sumW w ss := by
  unfold allT
  cases ks with
  | nil => simp [kidsT, Lib.join_nil]
  | cons n r =>
    cases ss with
    | nil => simp [kidsT, Lib.join_nil]
    | cons s q =>
      simp only [kidsT, Lib.join_cons, List.length_append, sumW]
      have := tail_le hw (k := k) (t := t) r q (0 + 1)
      have := kidT_le (k := k) (t := t) (i := ((0 : Nat) : Int)) (n := n) (s := s)
      omega
theorem flat_le {w : Nat} {g : List UInt8 → List UInt8} (hg : ∀ s, (g s).length ≤ s.length + w) : ∀ ss : List (List UInt8), (ss.flatMap g).length ≤ sumW w ss
  | [] => by simp [sumW]
  | s :: r => by
    have := flat_le hg r
    have := hg s
    simp only [List.flatMap_cons, List.length_append, sumW]
    omega

theorem ite_len {c : Prop} [Decidable c] {a b : List UInt8} {n : Nat} (ha : a.length ≤ n) (hb : b.length ≤ n) : (if c then a else b).length ≤ n := by
  split
  · exact ha
  · exact hb

theorem form_le (k : Int) (t : List UInt8) (d : Nat) (ks : List Nd) (ss : List (List UInt8)) : (form k t d ks ss).length ≤ t.length + 40 + 2 * d + sumW (2 * d + 6) ss := by
  have h3 := sumW_three (2 * d + 6) ss
  have hall := allT_le (k := k) (t := t) (w := 2 * d + 6) (by omega) ks ss
  have hk := fun i : Nat => kidT_le (k := k) (t := t) (i := i) (n := ks.getD i nd0) (s := ss.getD i [])
  have hw := fun i : Nat => wrT_le (n := ks.getD i nd0) (s := ss.getD i [])
  have k0 := hk 0
  have k1 := hk 1
  have w0 := hw 0
  have w1 := hw 1
  have hf1 := flat_le (w := 2 * d + 6) (g := (· ++ [10])) (fun s => by simp only [List.length_append, List.length_cons, List.length_nil]; omega) ss
  have hf2 := flat_le (w := 2 * d + 6) (g := fun s => indT (d + 1) ++ (s ++ [10])) (fun s => by simp only [List.length_append, List.length_cons, List.length_nil, indT_length]; omega) ss
  unfold form
  simp only
  repeat' (refine ite_len ?_ ?_)
  all_goals ((try simp only [List.flatten_cons, List.flatten_nil, List.length_append, List.length_cons, List.length_nil, indT_length]); omega)

mutual
theorem txt_le (M : Nat) : ∀ (n : Nd) (d : Nat), (∀ x ∈ n.all, x.text.length ≤ 60) → 102 + 2 * (d + n.all.length) ≤ M → (txt n d).length + M ≤ 2 * M * n.all.length
  | .mk k t ks, d, ht, hM => by
    have h1 := form_le k t d ks (txtL ks (if k = 11 then d + 1 else d))
    have ht1 : t.length ≤ 60 := ht (.mk k t ks) (by simp [Nd.all])
    have h2 := txtL_le M ks (if k = 11 then d + 1 else d) d (by split <;> omega) (fun x hx => ht x (by simp [Nd.all, hx])) (by simp only [Nd.all, List.length_cons] at hM; omega)
    simp only [txt, Nd.all, List.length_cons] at hM ⊢
    have : 2 * M * ((allL ks).length + 1) = 2 * M * (allL ks).length + 2 * M := by rw [Nat.mul_add, Nat.mul_one]
    omega
theorem txtL_le (M : Nat) : ∀ (ks : List Nd) (d' d : Nat), d' ≤ d + 1 → (∀ x ∈ allL ks, x.text.length ≤ 60) → 102 + 2 * (d + 1 + (allL ks).length) ≤ M → sumW (2 * d + 6) (txtL ks d') ≤ 2 * M * (allL ks).length
  | [], _, _, _, _, _ => by simp [txtL, sumW]
  | n :: r, d', d, hd, ht, hM => by
    simp only [allL, List.length_append] at hM
    have h1 := txt_le M n d' (fun x hx => ht x (by simp [allL, hx])) (by omega)
    have h2 := txtL_le M r d' d hd (fun x hx => ht x (by simp [allL, hx])) (by omega)
    simp only [txtL, sumW, allL, List.length_append]
    have : 2 * M * (n.all.length + (allL r).length) = 2 * M * n.all.length + 2 * M * (allL r).length := Nat.mul_add _ _ _
    omega
end

theorem txt_small {n : Nd} {m : Nat} (h : n.small m = true) (hm : m ≤ 1000) {d : Nat} (hd : d ≤ 1000) : n.all.length ≤ m ∧ (∀ x ∈ n.all, x.text.length ≤ 60) ∧ (txt n d).length ≤ limit := by
  unfold Nd.small at h
  simp only [Bool.and_eq_true, List.all_eq_true, decide_eq_true_eq] at h
  obtain ⟨h1, h2⟩ := h
  have hlen : n.all.length ≤ m := by omega
  have h3 := txt_le (102 + 2 * (d + n.all.length)) n d h1 (Nat.le_refl _)
  have h4 : 2 * (102 + 2 * (d + n.all.length)) * n.all.length ≤ 2 * (102 + 2 * (1000 + 1000)) * 1000 := Nat.mul_le_mul (by omega) (by omega)
  have hlim : limit = 2 ^ 36 := rfl
  exact ⟨hlen, h1, by omega⟩
end Go.Proofs.YtdhgdpokdhjanaaGreat.Abs
