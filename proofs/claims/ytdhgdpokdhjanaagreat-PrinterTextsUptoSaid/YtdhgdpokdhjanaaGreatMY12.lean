/- The reference's Shape: all nodes have their shapes. -/
import Derived.Test.YtdhgdpokdhjanaaGreatV0
import Derived.Test.YtdhgdpokdhjanaaGreatMY8
import Derived.Test.YtdhgdpokdhjanaaGreatY11
set_option linter.unusedSimpArgs false
set_option linter.unusedVariables false
namespace Go.Proofs.YtdhgdpokdhjanaaGreat.Abs
open Go

/-- The kids from an index on are what they may be. -/
def kidsOK (k : Int) : Nat → List Nd → Bool
  | _, [] => true
  | i, n :: r => (match kpOf k i with
    | some q => q.test n.kind
    | none => false) && (!(k == 4) || [sInt, sBool].contains n.text) && n.ok && kidsOK k (i + 1) r

def sh2Loop : ACode := match f171.code with
  | .seq _ (.seq _ (.seq _ (.seq _ (.seq (.seq _ (.block _ (.loop b _))) _)))) => b
  | _ => .bad

section
variable {k : Int} {t : List UInt8} {p e : Int}

set_option maxHeartbeats 4000000 in
theorem sh2_loop {cs : List AVal} {ks : List Nd} {o : Own} (ho : o = .none ∨ o = .exact) (hks : ndL cs = some ks) (hn : ks.length ≤ limit) (hk1 : 0 ≤ k) (hk2 : k ≤ 29) (hkp : ∀ i, i < ks.length → ∃ q, kpOf k i = some q)
    (hsh : ∀ k t zs p e kv, Nd.mk k t zs ∈ ks → ndV kv = some zs → Call C2 171 [.agg (kid5 k t p e kv)] ⟨0, []⟩ = some (.bool (Nd.mk k t zs).ok, ⟨0, []⟩)) : ∀ (r : List Nd) (i : Nat), ks.drop i = r → i ≤ ks.length →
    if kidsOK k i r = true then Loop C2 sh2Loop [1, 5] [(1, .ref 0 0), (5, .int .i64 i)] ⟨1, [.cells (kid5 k t p e (.sl cs ks.length o))]⟩ =
      some (.exit 0, [(1, .ref 0 0), (5, .int .i64 ks.length), (46, .bool false)], ⟨1, [.cells (kid5 k t p e (.sl cs ks.length o))]⟩)
    else Loop C2 sh2Loop [1, 5] [(1, .ref 0 0), (5, .int .i64 i)] ⟨1, [.cells (kid5 k t p e (.sl cs ks.length o))]⟩ =
      some (.ret, [(2, .bool false)], ⟨1, [.cells (kid5 k t p e (.sl cs ks.length o))]⟩)
  | [], i, h, hi => by
    have : i = ks.length := by
      have := congrArg List.length h
      simp only [List.length_drop, List.length_nil] at this
      omega
    subst this
    simp only [kidsOK, if_true]
    rw [Loop_eq, v_stepLoop]
    rcases ho with rfl | rfl <;> simp [sh2Loop, f171, kid5, vv, Frame.put, keepF, Opd.ev, Opd.taken, aun, params, AVal.cells, AVal.known, entries, ASt.push, loadAt, mk, ASt.get, getL, results, result, ASt.trunc, underL, AVal.under, Own.under, storeAt, mayPutL, mayPut, splice, ASt.set, setL, fill, zeros, List.map_cons, List.map_nil, List.nil_append, List.append_nil, Option.map_some, Option.bind_some]
  | n :: r, i, h, hi => by
    obtain ⟨hlt, k1, t1, p1, e1, kv1, zs, rfl, hz, hcut⟩ := ndL_get hks h
    have h3 : kv1.under 0 = true := ndV_under _ hz
    have hw : IntKind.wrap .i64 ((i : Int) + 1) = ((i + 1 : Nat) : Int) := by
      rw [wrap_i64 (by omega) (by unfold limit at hn; omega)]; rfl
    obtain ⟨q, hq⟩ := hkp i hlt
    have hc := kid_call k1 t1 p1 e1 kv1 hk1 hk2 hq
    have hs := hsh k1 t1 zs p1 e1 kv1 (List.mem_of_mem_drop (i := i) (by rw [h]; simp)) hz
    have ih := sh2_loop ho hks hn hk1 hk2 hkp hsh r (i + 1) (by rw [← List.drop_drop, h]; rfl) (by omega)
    simp only [kid5] at hcut hc hs
    rw [Loop_eq, v_stepLoop]
    simp only [kidsOK, hq, Nd.kind, Nd.text]
    generalize (q.test k1 && (!(k == 4) || [sInt, sBool].contains t1)) = b1 at hc ⊢
    generalize (Nd.mk k1 t1 zs).ok = b2 at hs ⊢
    cases b1
    · simp only [Bool.false_and, Bool.false_eq_true, if_false]
      rcases ho with rfl | rfl <;> simp [sh2Loop, f171, hlt, hcut, h3, hc, kid5, vv, Frame.put, keepF, Opd.ev, Opd.taken, aun, params, AVal.cells, AVal.known, entries, ASt.push, loadAt, mk, ASt.get, getL, results, result, ASt.trunc, underL, AVal.under, Own.under, storeAt, mayPutL, mayPut, splice, ASt.set, setL, fill, zeros, List.map_cons, List.map_nil, List.nil_append, List.append_nil, Option.map_some, Option.bind_some]
    · cases b2
      · simp only [Bool.and_false, Bool.false_and, Bool.false_eq_true, if_false]
        rcases ho with rfl | rfl <;> simp [sh2Loop, f171, hlt, hcut, h3, hc, hs, kid5, vv, Frame.put, keepF, Opd.ev, Opd.taken, aun, params, AVal.cells, AVal.known, entries, ASt.push, loadAt, mk, ASt.get, getL, results, result, ASt.trunc, underL, AVal.under, Own.under, storeAt, mayPutL, mayPut, splice, ASt.set, setL, fill, zeros, List.map_cons, List.map_nil, List.nil_append, List.append_nil, Option.map_some, Option.bind_some]
      · simp only [Bool.and_true, Bool.true_and]
        split
        · rename_i hr
          rw [if_pos hr] at ih
          rw [← ih]
          rcases ho with rfl | rfl <;> simp [sh2Loop, f171, hlt, hcut, h3, hc, hs, hw, kid5, vv, Frame.put, keepF, Opd.ev, Opd.taken, aun, params, AVal.cells, AVal.known, entries, ASt.push, loadAt, mk, ASt.get, getL, results, result, ASt.trunc, underL, AVal.under, Own.under, storeAt, mayPutL, mayPut, splice, ASt.set, setL, fill, zeros, List.map_cons, List.map_nil, List.nil_append, List.append_nil, Option.map_some, Option.bind_some]
        · rename_i hr
          rw [if_neg hr] at ih
          rw [← ih]
          rcases ho with rfl | rfl <;> simp [sh2Loop, f171, hlt, hcut, h3, hc, hs, hw, kid5, vv, Frame.put, keepF, Opd.ev, Opd.taken, aun, params, AVal.cells, AVal.known, entries, ASt.push, loadAt, mk, ASt.get, getL, results, result, ASt.trunc, underL, AVal.under, Own.under, storeAt, mayPutL, mayPut, splice, ASt.set, setL, fill, zeros, List.map_cons, List.map_nil, List.nil_append, List.append_nil, Option.map_some, Option.bind_some]

theorem sh2_nils : Loop C2 sh2Loop [1, 5] [(1, .ref 0 0), (5, .int .i64 0)] ⟨1, [.cells (kid5 k t p e .nils)]⟩ =
      some (.exit 0, [(1, .ref 0 0), (5, .int .i64 0), (46, .bool false)], ⟨1, [.cells (kid5 k t p e .nils)]⟩) := by
  rw [Loop_eq, v_stepLoop]
  simp [sh2Loop, f171, kid5, vv, Frame.put, keepF, Opd.ev, Opd.taken, aun, params, AVal.cells, AVal.known, entries, ASt.push, loadAt, mk, ASt.get, getL, results, result, ASt.trunc, underL, AVal.under, Own.under, storeAt, mayPutL, mayPut, splice, ASt.set, setL, fill, zeros, List.map_cons, List.map_nil, List.nil_append, List.append_nil, Option.map_some, Option.bind_some]

/-! ### In plain words -/

theorem allL_ok : ∀ r : List Nd, (allL r).all nodeOK = r.all Nd.ok
  | [] => rfl
  | n :: r => by
    simp only [allL, List.all_append, List.all_cons, allL_ok r]
    rfl
theorem ok_mk (k : Int) (t : List UInt8) (ks : List Nd) : (Nd.mk k t ks).ok = (nodeOK (.mk k t ks) && ks.all Nd.ok) := by
  unfold Nd.ok
  simp only [Nd.all, List.all_cons]
  rw [allL_ok]
  rfl

theorem kidsOK_list {k : Int} {s : Shp} {q : KP} (hs : lookK k shp = some s) (hl : s.list = some q) (h4 : k ≠ 4) : ∀ (r : List Nd) (i : Nat), kidsOK k i r = ((r.map Nd.kind).all q.test && r.all Nd.ok)
  | [], _ => rfl
  | n :: r, i => by
    have hq : kpOf k i = some q := by unfold kpOf; simp only [hs, hl]
    have h4 : (k == 4) = false := by simpa using h4
    simp only [kidsOK, hq, h4, kidsOK_list hs hl (by simpa using h4) r (i + 1), Bool.not_false, Bool.true_or, Bool.and_true, List.map_cons, List.all_cons]
    cases q.test n.kind <;> cases n.ok <;> simp
theorem kidsOK_fix {k : Int} {s : Shp} (hs : lookK k shp = some s) (hl : s.list = none) : ∀ (r : List Nd) (i : Nat), r.length = (s.kids.drop i).length → kidsOK k i r = (tests (s.kids.drop i) (r.map Nd.kind) && r.all Nd.ok && (!(k == 4) || r.all fun n => [sInt, sBool].contains n.text))
  | [], i, _ => by
    have : ∀ l, tests l ([] : List Int) = true := fun l => by cases l <;> rfl
    simp [kidsOK, this]
  | n :: r, i, h => by
    have hlt : i < s.kids.length := by
      simp only [List.length_drop, List.length_cons] at h
      omega
    have hd := List.drop_eq_getElem_cons hlt
    have hq : kpOf k i = some s.kids[i] := by
      unfold kpOf
      simp only [hs, hl]
      rw [List.getElem?_eq_getElem hlt]
    have ih := kidsOK_fix hs hl r (i + 1) (by simp only [List.length_drop, List.length_cons] at h ⊢; omega)
    simp only [kidsOK, hq, ih, hd, List.map_cons, tests, List.all_cons]
    generalize (s.kids[i]).test n.kind = a1
    generalize n.ok = a2
    generalize (k == 4) = a3
    generalize [sInt, sBool].contains n.text = a4
    generalize tests _ _ = a5
    generalize r.all Nd.ok = a6
    generalize (r.all _) = a7
    cases a1 <;> cases a2 <;> cases a3 <;> cases a4 <;> cases a5 <;> cases a6 <;> cases a7 <;> rfl

/-- A node and its kids have their shapes: as the reference looks. -/
theorem ok_is {k : Int} {t : List UInt8} {ks : List Nd} {s : Shp} (hs : lookK k shp = some s) : (Nd.mk k t ks).ok = (s.tx.test t && (match s.list with
    | some _ => decide (s.most ≤ ks.length)
    | none => decide (ks.length = s.kids.length)) && kidsOK k 0 ks) := by
  rw [ok_mk]
  simp only [nodeOK, hs, Shp.fits]
  cases hl : s.list with
  | some q =>
    have h4 : k ≠ 4 := by
      rintro rfl
      cases hs
      cases hl
    have h4' : (k == 4) = false := by simpa using h4
    rw [kidsOK_list hs hl h4]
    simp only [h4', Bool.not_false, Bool.true_or, Bool.and_true, List.length_map]
    cases s.tx.test t <;> cases decide (s.most ≤ ks.length) <;> simp
  | none =>
    simp only [List.length_map]
    by_cases hn : ks.length = s.kids.length
    · rw [kidsOK_fix hs hl ks 0 (by simpa using hn)]
      simp only [List.drop_zero]
      by_cases h4 : k = 4
      · subst h4
        cases hs
        match ks, hn with
        | [n], _ =>
          simp only [fieldOK, List.all_cons, List.all_nil, Bool.and_true]
          cases TP.test _ t <;> cases tests _ _ <;> cases n.ok <;> simp
      · have h4' : (k == 4) = false := by simpa using h4
        simp only [h4', Bool.not_false, Bool.true_or, Bool.and_true]
        cases s.tx.test t <;> simp [Bool.and_assoc]
    · simp [hn]

theorem lookK_none {k : Int} (h : k < 0 ∨ k = 1 ∨ 29 < k) : lookK k shp = none := by
  unfold shp
  simp only [lookK]
  rcases h with h | h | h
  all_goals
    repeat
      rw [if_neg (by omega)]
theorem lookK_some {k : Int} (h1 : 0 ≤ k) (h2 : k ≤ 29) (h3 : k ≠ 1) : ∃ s, lookK k shp = some s := by
  have hk : k ∈ ([0, 2, 3, 4, 5, 6, 7, 8, 9, 10, 11, 12, 13, 14, 15, 16, 17, 18, 19, 20, 21, 22, 23, 24, 25, 26, 27, 28, 29] : List Int) := by
    simp only [List.mem_cons, List.not_mem_nil, or_false]
    omega
  simp only [List.mem_cons, List.not_mem_nil, or_false] at hk
  rcases hk with rfl | rfl | rfl | rfl | rfl | rfl | rfl | rfl | rfl | rfl | rfl | rfl | rfl | rfl | rfl | rfl | rfl | rfl | rfl | rfl | rfl | rfl | rfl | rfl | rfl | rfl | rfl | rfl | rfl <;> exact ⟨_, rfl⟩

theorem kids_sub {ks : List Nd} {n : Nd} (h : n ∈ ks) : ∀ x ∈ n.all, x ∈ allL ks := by
  induction ks with
  | nil => cases h
  | cons m r ih =>
    intro x hx
    simp only [allL, List.mem_append]
    rcases List.mem_cons.1 h with rfl | h
    · exact .inl hx
    · exact .inr (ih h x hx)
theorem kids_len {ks : List Nd} {n : Nd} (h : n ∈ ks) : n.all.length ≤ (allL ks).length := by
  induction ks with
  | nil => cases h
  | cons m r ih =>
    simp only [allL, List.length_append]
    rcases List.mem_cons.1 h with rfl | h
    · omega
    · have := ih h; omega
theorem all_pos (n : Nd) : 1 ≤ n.all.length := by cases n; simp [Nd.all]
theorem allL_len : ∀ ks : List Nd, ks.length ≤ (allL ks).length
  | [] => Nat.le_refl _
  | n :: r => by
    have := allL_len r
    have := all_pos n
    simp only [allL, List.length_append, List.length_cons]
    omega

set_option maxHeartbeats 4000000 in
theorem shape_call : ∀ (N : Nat) (k : Int) (t : List UInt8) (p e : Int) (kv : AVal) (ks : List Nd), ndV kv = some ks → (Nd.mk k t ks).all.length ≤ N → N ≤ 4096 → (∀ x ∈ (Nd.mk k t ks).all, x.text.length ≤ limit) →
    Call C2 171 [.agg (kid5 k t p e kv)] ⟨0, []⟩ = some (.bool (Nd.mk k t ks).ok, ⟨0, []⟩)
  | 0, k, t, p, e, kv, ks, _, h, _, _ => by have := all_pos (.mk k t ks); omega
  | N + 1, k, t, p, e, kv, ks, hkv, hN, hN2, htx => by
    have hone := ndV_one hkv
    have htl : t.length ≤ limit := htx (.mk k t ks) (by simp [Nd.all])
    have hbad : ∀ h : k < 0 ∨ k = 1 ∨ 29 < k, (Nd.mk k t ks).ok = false := fun h => by
      rw [ok_mk]
      simp only [nodeOK, lookK_none h, Bool.false_and]
    rw [run_of (af := f171) rfl rfl, v_run rfl]
    by_cases c1 : k < 0
    · rw [hbad (.inl c1)]
      simp [f171, c1, kid5, vv, Frame.put, keepF, Opd.ev, Opd.taken, aun, params, AVal.cells, AVal.known, entries, ASt.push, loadAt, mk, ASt.get, getL, results, result, ASt.trunc, underL, AVal.under, Own.under, storeAt, mayPutL, mayPut, splice, ASt.set, setL, fill, zeros, List.map_cons, List.map_nil, List.nil_append, List.append_nil, Option.map_some, Option.bind_some]
    by_cases c2 : k = 1
    · rw [hbad (.inr (.inl c2))]
      subst c2
      simp [f171, kid5, vv, Frame.put, keepF, Opd.ev, Opd.taken, aun, params, AVal.cells, AVal.known, entries, ASt.push, loadAt, mk, ASt.get, getL, results, result, ASt.trunc, underL, AVal.under, Own.under, storeAt, mayPutL, mayPut, splice, ASt.set, setL, fill, zeros, List.map_cons, List.map_nil, List.nil_append, List.append_nil, Option.map_some, Option.bind_some]
    by_cases c3 : 29 < k
    · rw [hbad (.inr (.inr c3))]
      simp [f171, c1, c2, c3, kid5, vv, Frame.put, keepF, Opd.ev, Opd.taken, aun, params, AVal.cells, AVal.known, entries, ASt.push, loadAt, mk, ASt.get, getL, results, result, ASt.trunc, underL, AVal.under, Own.under, storeAt, mayPutL, mayPut, splice, ASt.set, setL, fill, zeros, List.map_cons, List.map_nil, List.nil_append, List.append_nil, Option.map_some, Option.bind_some]
    have d1 : 0 ≤ k := by omega
    have d2 : k ≤ 29 := by omega
    obtain ⟨s, hs⟩ := lookK_some d1 d2 c2
    have ht := text_call t p e kv htl d1 d2 c2
    have hm := most_call d1 d2 c2
    have hu := ndV_under _ hkv
    have hst := ndV_strip hkv
    have htp : tpOf k = s.tx := by unfold tpOf; simp only [hs]
    rw [htp] at ht
    rw [ok_is hs]
    simp only [kid5] at ht
    cases hx : s.tx.test t
    · rw [hx] at ht
      simp [f171, c1, c2, c3, ht, hu, hst, kid5, vv, Frame.put, keepF, Opd.ev, Opd.taken, aun, params, AVal.cells, AVal.known, entries, ASt.push, loadAt, mk, ASt.get, getL, results, result, ASt.trunc, underL, AVal.under, Own.under, storeAt, mayPutL, mayPut, splice, ASt.set, setL, fill, zeros, List.map_cons, List.map_nil, List.nil_append, List.append_nil, Option.map_some, Option.bind_some]
    rw [hx] at ht
    simp only [Bool.true_and]
    simp only [Nd.all, List.length_cons] at hN
    have hlen := allL_len ks
    -- the numbers of kids
    have hkp : (match s.list with | some _ => decide (s.most ≤ ks.length) | none => decide (ks.length = s.kids.length)) = true → ∀ i, i < ks.length → ∃ q, kpOf k i = some q := by
      intro hh i hi
      unfold kpOf
      simp only [hs]
      cases hl : s.list with
      | some q => exact ⟨q, rfl⟩
      | none =>
        simp only [hl] at hh
        have := of_decide_eq_true hh
        exact ⟨s.kids[i]'(by omega), List.getElem?_eq_getElem _⟩
    have hcond : (match s.list with | some _ => decide (s.most ≤ ks.length) | none => decide (ks.length = s.kids.length)) = (!(decide ((ks.length : Int) < (mostOf k).1) || decide ((mostOf k).2 < (ks.length : Int)))) := by
      unfold mostOf
      simp only [hs]
      cases hl : s.list with
      | some q =>
        simp only
        have : ¬ ((4096 : Int) < (ks.length : Int)) := by omega
        simp only [this, decide_false, Bool.or_false]
        rw [Bool.eq_iff_iff]
        simp only [decide_eq_true_eq, Bool.not_eq_true', decide_eq_false_iff_not]
        omega
      | none =>
        simp only
        rw [Bool.eq_iff_iff]
        simp only [decide_eq_true_eq, Bool.not_eq_true', Bool.or_eq_false_iff, decide_eq_false_iff_not]
        omega
    have hsh : ∀ k1 t1 zs p e kv, Nd.mk k1 t1 zs ∈ ks → ndV kv = some zs → Call C2 171 [.agg (kid5 k1 t1 p e kv)] ⟨0, []⟩ = some (.bool (Nd.mk k1 t1 zs).ok, ⟨0, []⟩) := fun k1 t1 zs p e kv hmem hz =>
      shape_call N k1 t1 p e kv zs hz (by have := kids_len hmem; omega) (by omega) (fun x hx => htx x (by simp only [Nd.all, List.mem_cons]; exact .inr (kids_sub hmem x hx)))
    rw [hcond] at hkp ⊢
    generalize (mostOf k).1 = lo at hm hkp ⊢
    generalize (mostOf k).2 = hi at hm hkp ⊢
    rcases ndV_cases hkv with ⟨rfl, rfl⟩ | ⟨cs, n, o, rfl, ho, hcl, hn, hL⟩
    · have hloop := sh2_nils (k := k) (t := t) (p := p) (e := e)
      simp only [List.length_nil, Int.ofNat_zero, kidsOK, Bool.and_true]
      by_cases e1 : (0 : Int) < lo
      · simp [f171, c1, c2, c3, ht, hu, hst, hm, e1, kid5, vv, Frame.put, keepF, Opd.ev, Opd.taken, aun, params, AVal.cells, AVal.known, entries, ASt.push, loadAt, mk, ASt.get, getL, results, result, ASt.trunc, underL, AVal.under, Own.under, storeAt, mayPutL, mayPut, splice, ASt.set, setL, fill, zeros, List.map_cons, List.map_nil, List.nil_append, List.append_nil, Option.map_some, Option.bind_some]
      by_cases e2 : hi < (0 : Int)
      · simp [f171, c1, c2, c3, ht, hu, hst, hm, e1, e2, kid5, vv, Frame.put, keepF, Opd.ev, Opd.taken, aun, params, AVal.cells, AVal.known, entries, ASt.push, loadAt, mk, ASt.get, getL, results, result, ASt.trunc, underL, AVal.under, Own.under, storeAt, mayPutL, mayPut, splice, ASt.set, setL, fill, zeros, List.map_cons, List.map_nil, List.nil_append, List.append_nil, Option.map_some, Option.bind_some]
      simp [sh2Loop, f171, kid5] at hloop
      simp [f171, c1, c2, c3, ht, hu, hst, hm, e1, e2, hloop, kid5, vv, Frame.put, keepF, Opd.ev, Opd.taken, aun, params, AVal.cells, AVal.known, entries, ASt.push, loadAt, mk, ASt.get, getL, results, result, ASt.trunc, underL, AVal.under, Own.under, storeAt, mayPutL, mayPut, splice, ASt.set, setL, fill, zeros, List.map_cons, List.map_nil, List.nil_append, List.append_nil, Option.map_some, Option.bind_some]
    · have hn2 : n = ks.length := by have := ndL_length hL; omega
      subst hn2
      have hu2 := ndL_under _ hL
      by_cases e1 : (ks.length : Int) < lo
      · rcases ho with rfl | rfl <;> simp [f171, c1, c2, c3, ht, hu2, hm, e1, kid5, vv, Frame.put, keepF, Opd.ev, Opd.taken, aun, params, AVal.cells, AVal.known, entries, ASt.push, loadAt, mk, ASt.get, getL, results, result, ASt.trunc, underL, AVal.under, Own.under, storeAt, mayPutL, mayPut, splice, ASt.set, setL, fill, zeros, List.map_cons, List.map_nil, List.nil_append, List.append_nil, Option.map_some, Option.bind_some]
      by_cases e2 : hi < (ks.length : Int)
      · rcases ho with rfl | rfl <;> simp [f171, c1, c2, c3, ht, hu2, hm, e1, e2, kid5, vv, Frame.put, keepF, Opd.ev, Opd.taken, aun, params, AVal.cells, AVal.known, entries, ASt.push, loadAt, mk, ASt.get, getL, results, result, ASt.trunc, underL, AVal.under, Own.under, storeAt, mayPutL, mayPut, splice, ASt.set, setL, fill, zeros, List.map_cons, List.map_nil, List.nil_append, List.append_nil, Option.map_some, Option.bind_some]
      have hloop := sh2_loop (t := t) (p := p) (e := e) ho hL hn d1 d2 (hkp (by simp [e1, e2])) hsh ks 0 rfl (Nat.zero_le _)
      have e1d : decide ((ks.length : Int) < lo) = false := by simpa using e1
      have e2d : decide (hi < (ks.length : Int)) = false := by simpa using e2
      simp only [e1d, e2d, Bool.or_false, Bool.not_false, Bool.true_and]
      split at hloop
      · rename_i hr
        rw [hr]
        simp [sh2Loop, f171, kid5] at hloop
        rcases ho with rfl | rfl <;> simp [f171, c1, c2, c3, ht, hu2, hm, e1, e2, hloop, kid5, vv, Frame.put, keepF, Opd.ev, Opd.taken, aun, params, AVal.cells, AVal.known, entries, ASt.push, loadAt, mk, ASt.get, getL, results, result, ASt.trunc, underL, AVal.under, Own.under, storeAt, mayPutL, mayPut, splice, ASt.set, setL, fill, zeros, List.map_cons, List.map_nil, List.nil_append, List.append_nil, Option.map_some, Option.bind_some]
      · rename_i hr
        have hr : kidsOK k 0 ks = false := by simpa using hr
        rw [hr]
        simp [sh2Loop, f171, kid5] at hloop
        rcases ho with rfl | rfl <;> simp [f171, c1, c2, c3, ht, hu2, hm, e1, e2, hloop, kid5, vv, Frame.put, keepF, Opd.ev, Opd.taken, aun, params, AVal.cells, AVal.known, entries, ASt.push, loadAt, mk, ASt.get, getL, results, result, ASt.trunc, underL, AVal.under, Own.under, storeAt, mayPutL, mayPut, splice, ASt.set, setL, fill, zeros, List.map_cons, List.map_nil, List.nil_append, List.append_nil, Option.map_some, Option.bind_some]
end
end Go.Proofs.YtdhgdpokdhjanaaGreat.Abs
/- tree.shaped: all nodes have their shapes. -/
namespace Go.Proofs.YtdhgdpokdhjanaaGreat.Abs
open Go

/-! ### The values of the shapes -/

theorem under_ints (n : Nat) (l : List Int) : underL n (l.map (AVal.int .i64)) = true := underL_all.2 (fun a ha => by
  obtain ⟨b, _, rfl⟩ := List.mem_map.1 ha
  rfl)
theorem under_strs (n : Nat) (l : List (List UInt8)) : underL n (l.map AVal.str) = true := underL_all.2 (fun a ha => by
  obtain ⟨b, _, rfl⟩ := List.mem_map.1 ha
  rfl)
theorem KP.under (n : Nat) : ∀ p : KP, p.val.under n = true
  | .one l => by simp [KP.val, AVal.under, underL, under_ints, Own.under]
  | .expr => rfl
  | .stmt => rfl
  | .typ => rfl
  | .place => rfl
  | .opt p => by simp [KP.val, AVal.under, underL, KP.under n p]
theorem KP.one' : ∀ p : KP, p.val.one = true ∧ p.val.strip = p.val := fun p => by cases p <;> exact ⟨rfl, rfl⟩
theorem TP.under (n : Nat) : ∀ p : TP, p.val.under n = true
  | .empty => rfl
  | .name => rfl
  | .num => rfl
  | .scalar => rfl
  | .words l => by simp [TP.val, AVal.under, underL, under_strs, Own.under]
theorem TP.one' : ∀ p : TP, p.val.one = true ∧ p.val.strip = p.val := fun p => by cases p <;> exact ⟨rfl, rfl⟩
theorem kids_val (n : Nat) (l : List KP) : (kidsVal l).under n = true ∧ (kidsVal l).one = true ∧ (kidsVal l).strip = kidsVal l := by
  cases l with
  | nil => exact ⟨rfl, rfl, rfl⟩
  | cons q l =>
    refine ⟨?_, rfl, rfl⟩
    have : underL n ((q :: l).map KP.val) = true := underL_all.2 (fun a ha => by
      obtain ⟨b, _, rfl⟩ := List.mem_map.1 ha
      exact KP.under n b)
    show AVal.under n (.sl ((q :: l).map KP.val) (q :: l).length .exact) = true
    simp only [AVal.under, this, Own.under, Bool.and_self]
theorem list_val (n : Nat) (l : Option KP) : (listVal l).under n = true ∧ (listVal l).one = true ∧ (listVal l).strip = listVal l := by
  cases l with
  | none => exact ⟨rfl, rfl, rfl⟩
  | some q => exact ⟨KP.under n q, (KP.one' q).1, (KP.one' q).2⟩

theorem shp_small {k : Int} {s : Shp} (h : lookK k shp = some s) : s.small = true := by
  have hall : ∀ l : List (Int × Shp), (l.all fun p => p.2.small) = true → lookK k l = some s → s.small = true := by
    intro l
    induction l with
    | nil => intro _ h; cases h
    | cons x l ih =>
      intro h1 h2
      simp only [List.all_cons, Bool.and_eq_true] at h1
      simp only [lookK] at h2
      split at h2
      · cases h2; exact h1.1
      · exact ih h1.2 h2
  exact hall shp (by decide) h

section
variable {k : Int} {t : List UInt8} {p e : Int} {kv : AVal} {ks : List Nd}

def okX : XRes → Option Bool
  | some (.normal, _, s2) => okOf (s2.trunc 1)
  | _ => none
theorem okX_n {A : Frame} {s : ASt} : okX (some (.normal, A, s)) = okOf (s.trunc 1) := rfl
theorem okOf_is (n : Nat) (b : Bool) : okOf ⟨n, [.cells [.bool b]]⟩ = some b := rfl
theorem stp_body {K : CallFn} {L : LoopFn} {ok : Bool} (h1 : kv.one = true) (h2 : kv.strip = kv) (h3 : kv.under 2 = true) : stp K L (kid5 k t p e kv) ok = okX (exec K L shBody [(3, .ipt [tabV] 0), (4, .ref 0 0), (5, .ref 1 0)] ⟨2, [.cells (kid5 k t p e kv), .cells [.bool ok]]⟩) := by
  have h : exec K L shAssign [(3, .ipt [tabV] 0), (4, .ref 0 0), (11, .agg (kid5 k t p e kv))] (okSt ok) = some (.normal, [(3, .ipt [tabV] 0), (4, .ref 0 0), (5, .ref 1 0)], ⟨2, [.cells (kid5 k t p e kv), .cells [.bool ok]]⟩) := by
    generalize tabV = T
    simp [shAssign, okSt, h1, h2, h3, kid5, vv, Frame.put, keepF, Opd.ev, Opd.taken, aun, params, AVal.cells, AVal.known, entries, ASt.push, loadAt, mk, ASt.get, getL, results, result, ASt.trunc, underL, AVal.under, Own.under, storeAt, mayPutL, mayPut, splice, ASt.set, setL, fill, zeros, List.map_cons, List.map_nil, List.nil_append, List.append_nil, Option.map_some, Option.bind_some]
  unfold stp
  rw [h]
  simp only [Option.bind_some]
  rcases exec K L shBody [(3, .ipt [tabV] 0), (4, .ref 0 0), (5, .ref 1 0)] ⟨2, [.cells (kid5 k t p e kv), .cells [.bool ok]]⟩ with _ | ⟨e, A, s⟩
  · rfl
  · cases e <;> rfl

theorem tab_find (k : Int) : Abs.find .int (.int .i64 k) (ksOf tab) (vsOf tab) = some ((lookK k shp).map Shp.val) := find_shp k shp

theorem stp_no (hkv : ndV kv = some ks) (hs : lookK k shp = none) (ok : Bool) : stp (Call C1) (Loop C1) (kid5 k t p e kv) ok = some false := by
  have hf := tab_find k
  rw [hs] at hf
  have h1 := ndV_one hkv
  have h2 := ndV_strip hkv
  have h3 : kv.under 2 = true := under_mono (Nat.zero_le _) (ndV_under _ hkv)
  rw [stp_body h1 h2 h3]
  unfold tabV
  generalize ksOf tab = KS at hf
  generalize vsOf tab = VS at hf
  have h4 : k ≠ 4 := by rintro rfl; cases hs
  cases ok <;> simp [shBody, okX_n, okOf_is, hf, h1, h2, h3, h4, entries, kid5, vv, Frame.put, keepF, Opd.ev, Opd.taken, aun, params, AVal.cells, AVal.known, entries, ASt.push, loadAt, mk, ASt.get, getL, results, result, ASt.trunc, underL, AVal.under, Own.under, storeAt, mayPutL, mayPut, splice, ASt.set, setL, fill, zeros, List.map_cons, List.map_nil, List.nil_append, List.append_nil, Option.map_some, Option.bind_some]

theorem stp_off {s : Shp} (hkv : ndV kv = some ks) (hs : lookK k shp = some s) : stp (Call C1) (Loop C1) (kid5 k t p e kv) false = some false := by
  have hf := tab_find k
  rw [hs] at hf
  have h1 := ndV_one hkv
  have h2 := ndV_strip hkv
  have h3 : kv.under 2 = true := under_mono (Nat.zero_le _) (ndV_under _ hkv)
  obtain ⟨tx, kids, list, most⟩ := s
  simp only [Option.map_some, Shp.val] at hf
  have a1 := TP.under 3 tx
  have a2 := TP.one' tx
  have b1 := kids_val 3 kids
  have c1 := list_val 3 list
  rw [stp_body h1 h2 h3]
  unfold tabV
  generalize ksOf tab = KS at hf
  generalize vsOf tab = VS at hf
  generalize tx.val = v1 at *
  generalize kidsVal kids = v2 at *
  generalize listVal list = v3 at *
  by_cases h4 : k = 4
  · subst h4
    simp [shBody, okX_n, okOf_is, hf, h1, h2, h3, a1, a2, b1, c1, entries, kid5, vv, Frame.put, keepF, Opd.ev, Opd.taken, aun, params, AVal.cells, AVal.known, entries, ASt.push, loadAt, mk, ASt.get, getL, results, result, ASt.trunc, underL, AVal.under, Own.under, storeAt, mayPutL, mayPut, splice, ASt.set, setL, fill, zeros, List.map_cons, List.map_nil, List.nil_append, List.append_nil, Option.map_some, Option.bind_some]
  · simp [shBody, okX_n, okOf_is, hf, h1, h2, h3, h4, a1, a2, b1, c1, entries, kid5, vv, Frame.put, keepF, Opd.ev, Opd.taken, aun, params, AVal.cells, AVal.known, entries, ASt.push, loadAt, mk, ASt.get, getL, results, result, ASt.trunc, underL, AVal.under, Own.under, storeAt, mayPutL, mayPut, splice, ASt.set, setL, fill, zeros, List.map_cons, List.map_nil, List.nil_append, List.append_nil, Option.map_some, Option.bind_some]

theorem stp_on {s : Shp} (ht : t.length ≤ limit) (hkv : ndV kv = some ks) (hs : lookK k shp = some s) (h4 : k ≠ 4 ∨ s.fits t (ks.map Nd.kind) = false) : stp (Call C1) (Loop C1) (kid5 k t p e kv) true = some (s.fits t (ks.map Nd.kind)) := by
  have hf := tab_find k
  rw [hs] at hf
  have h1 := ndV_one hkv
  have h2 := ndV_strip hkv
  have h3 : kv.under 2 = true := under_mono (Nat.zero_le _) (ndV_under _ hkv)
  have hfit := fits_call (a := .cells s.val.cells) (b := .cells (kid5 k t p e kv)) (c := .cells [.bool true]) (shp_small hs) k t ht p e hkv
  obtain ⟨tx, kids, list, most⟩ := s
  simp only [Option.map_some, Shp.val] at hf
  have a1 := TP.under 3 tx
  have a2 := TP.one' tx
  have b1 := kids_val 3 kids
  have c1 := list_val 3 list
  generalize Shp.fits ⟨tx, kids, list, most⟩ t (ks.map Nd.kind) = q at hfit h4 ⊢
  simp only [Shp.val, AVal.cells, kid5] at hfit
  rw [stp_body h1 h2 h3]
  unfold tabV
  generalize ksOf tab = KS at hf
  generalize vsOf tab = VS at hf
  generalize tx.val = v1 at *
  generalize kidsVal kids = v2 at *
  generalize listVal list = v3 at *
  rcases h4 with h4 | rfl
  · simp [shBody, okX_n, okOf_is, hf, h1, h2, h3, h4, a1, a2, b1, c1, hfit, entries, kid5, vv, Frame.put, keepF, Opd.ev, Opd.taken, aun, params, AVal.cells, AVal.known, entries, ASt.push, loadAt, mk, ASt.get, getL, results, result, ASt.trunc, underL, AVal.under, Own.under, storeAt, mayPutL, mayPut, splice, ASt.set, setL, fill, zeros, List.map_cons, List.map_nil, List.nil_append, List.append_nil, Option.map_some, Option.bind_some]
  · by_cases h4 : k = 4
    · subst h4
      simp [shBody, okX_n, okOf_is, hf, h1, h2, h3, a1, a2, b1, c1, hfit, entries, kid5, vv, Frame.put, keepF, Opd.ev, Opd.taken, aun, params, AVal.cells, AVal.known, entries, ASt.push, loadAt, mk, ASt.get, getL, results, result, ASt.trunc, underL, AVal.under, Own.under, storeAt, mayPutL, mayPut, splice, ASt.set, setL, fill, zeros, List.map_cons, List.map_nil, List.nil_append, List.append_nil, Option.map_some, Option.bind_some]
    · simp [shBody, okX_n, okOf_is, hf, h1, h2, h3, h4, a1, a2, b1, c1, hfit, entries, kid5, vv, Frame.put, keepF, Opd.ev, Opd.taken, aun, params, AVal.cells, AVal.known, entries, ASt.push, loadAt, mk, ASt.get, getL, results, result, ASt.trunc, underL, AVal.under, Own.under, storeAt, mayPutL, mayPut, splice, ASt.set, setL, fill, zeros, List.map_cons, List.map_nil, List.nil_append, List.append_nil, Option.map_some, Option.bind_some]

/-- A field. -/
theorem stp_field {s : Shp} (ht : t.length ≤ limit) (hkv : ndV kv = some ks) (hs : lookK 4 shp = some s) (hq : s.fits t (ks.map Nd.kind) = true) : stp (Call C1) (Loop C1) (kid5 4 t p e kv) true = some (fieldOK ks) := by
  have hf := tab_find 4
  rw [hs] at hf
  have h1 := ndV_one hkv
  have h2 := ndV_strip hkv
  have h3 : kv.under 2 = true := under_mono (Nat.zero_le _) (ndV_under _ hkv)
  have hfit := fits_call (a := .cells s.val.cells) (b := .cells (kid5 4 t p e kv)) (c := .cells [.bool true]) (shp_small hs) 4 t ht p e hkv
  rw [hq] at hfit
  cases hs
  have hlen : ks.length = 1 := by
    simp only [Shp.fits, Bool.and_eq_true, decide_eq_true_eq, List.length_map] at hq
    exact hq.2.1
  obtain ⟨n, rfl⟩ := List.length_eq_one_iff.1 hlen
  rcases ndV_cases hkv with ⟨rfl, hh⟩ | ⟨cs, m, o, rfl, ho, hcl, hn, hL⟩
  · cases hh
  have hm : m = 1 := by have := ndL_length hL; simp only [List.length_cons, List.length_nil] at this; omega
  subst hm
  obtain ⟨_, k1, t1, p1, e1, kv1, zs, rfl, hz, hcut⟩ := ndL_get hL (i := 0) rfl
  have hcs : cs = kid5 k1 t1 p1 e1 kv1 := by
    unfold cut at hcut
    rw [if_pos (by omega)] at hcut
    have h5 := Option.some.inj hcut
    simp only [Nat.zero_mul, List.drop_zero] at h5
    rw [← h5, List.take_of_length_le (by omega)]
  subst hcs
  have hk1 : underL 2 (kid5 k1 t1 p1 e1 kv1) = true := by
    have := under_mono (Nat.zero_le 2) (ndV_under _ hkv)
    simp only [AVal.under, Bool.and_eq_true] at this
    exact this.1
  simp [Shp.val, AVal.cells, kid5, TP.val, kidsVal, listVal, KP.val] at hfit hf hk1
  rw [stp_body h1 h2 h3]
  unfold tabV fieldOK
  generalize ksOf tab = KS at hf
  generalize vsOf tab = VS at hf
  simp only [Nd.text, kid5]
  by_cases g1 : t1 = sInt
  · subst g1
    simp [sInt] at hfit hk1
    rcases ho with rfl | rfl <;> simp [shBody, cut, okX_n, okOf_is, hf, hk1, hfit, entries, Shp.val, TP.val, kidsVal, listVal, sInt, sBool, KP.under, kid5, vv, Frame.put, keepF, Opd.ev, Opd.taken, aun, params, AVal.cells, AVal.known, entries, ASt.push, loadAt, mk, ASt.get, getL, results, result, ASt.trunc, underL, AVal.under, Own.under, storeAt, mayPutL, mayPut, splice, ASt.set, setL, fill, zeros, List.map_cons, List.map_nil, List.nil_append, List.append_nil, Option.map_some, Option.bind_some]
  by_cases g2 : t1 = sBool
  · subst g2
    simp [sBool] at hfit hk1
    rcases ho with rfl | rfl <;> simp [shBody, cut, okX_n, okOf_is, hf, hk1, hfit, entries, Shp.val, TP.val, kidsVal, listVal, sInt, sBool, KP.under, kid5, vv, Frame.put, keepF, Opd.ev, Opd.taken, aun, params, AVal.cells, AVal.known, entries, ASt.push, loadAt, mk, ASt.get, getL, results, result, ASt.trunc, underL, AVal.under, Own.under, storeAt, mayPutL, mayPut, splice, ASt.set, setL, fill, zeros, List.map_cons, List.map_nil, List.nil_append, List.append_nil, Option.map_some, Option.bind_some]
  · have g3 : [sInt, sBool].contains t1 = false := by simp [g1, g2]
    rw [g3]
    simp only [sInt, sBool] at g1 g2
    have g4 : (t1 == [105, 110, 116]) = false := by simpa using g1
    have g5 : (t1 == [98, 111, 111, 108]) = false := by simpa using g2
    rcases ho with rfl | rfl <;> simp [shBody, cut, okX_n, okOf_is, hf, hk1, hfit, entries, Shp.val, TP.val, kidsVal, listVal, KP.under, g4, g5, kid5, vv, Frame.put, keepF, Opd.ev, Opd.taken, aun, params, AVal.cells, AVal.known, entries, ASt.push, loadAt, mk, ASt.get, getL, results, result, ASt.trunc, underL, AVal.under, Own.under, storeAt, mayPutL, mayPut, splice, ASt.set, setL, fill, zeros, List.map_cons, List.map_nil, List.nil_append, List.append_nil, Option.map_some, Option.bind_some]

theorem stp_is (ht : t.length ≤ limit) (hkv : ndV kv = some ks) (ok : Bool) : stp (Call C1) (Loop C1) (kid5 k t p e kv) ok = some (ok && nodeOK (.mk k t ks)) := by
  cases hs : lookK k shp with
  | none => rw [stp_no hkv hs]; simp only [nodeOK, hs, Bool.and_false]
  | some s =>
    cases ok with
    | false => rw [stp_off hkv hs]; rfl
    | true =>
      simp only [nodeOK, hs, Bool.true_and]
      by_cases h4 : k = 4
      · subst h4
        cases hq : s.fits t (ks.map Nd.kind) with
        | false => rw [stp_on ht hkv hs (.inr hq), hq]; rfl
        | true => rw [stp_field ht hkv hs hq]; rfl
      · rw [stp_on ht hkv hs (.inl h4)]
        have : (k == 4) = false := by simpa using h4
        simp [this]
end

/-! ### The nodes -/

def IsNd (x : List AVal) (n : Nd) : Prop := ∃ k t p e kv zs, x = kid5 k t p e kv ∧ n = .mk k t zs ∧ ndV kv = some zs
def NdsAre : List (List AVal) → List Nd → Prop
  | [], [] => True
  | x :: y, n :: m => IsNd x n ∧ NdsAre y m
  | _, _ => False
theorem NdsAre.append : ∀ {a : List (List AVal)} {b : List Nd} {c : List (List AVal)} {d : List Nd}, NdsAre a b → NdsAre c d → NdsAre (a ++ c) (b ++ d)
  | [], [], _, _, _, h => h
  | _ :: _, _ :: _, _, _, h1, h2 => ⟨h1.1, NdsAre.append h1.2 h2⟩
  | [], _ :: _, _, _, h, _ => h.elim
  | _ :: _, [], _, _, h, _ => h.elim

theorem nd_pre : ∀ {N : Nat}, (∀ {kv : AVal} {ks : List Nd}, ndV kv = some ks → (allL ks).length ≤ N → ∃ y, preV kv = some y ∧ NdsAre y (allL ks)) ∧
    ∀ {cs : List AVal} {ks : List Nd}, ndL cs = some ks → (allL ks).length ≤ N → ∃ y, preL cs = some y ∧ NdsAre y (allL ks) := by
  intro N
  induction N with
  | zero =>
    have h0 : ∀ {cs : List AVal} {ks : List Nd}, ndL cs = some ks → (allL ks).length ≤ 0 → ∃ y, preL cs = some y ∧ NdsAre y (allL ks) := by
      intro cs ks h hy
      rcases ndL_cons h with ⟨rfl, rfl⟩ | ⟨k, t, p, e, kv, r, y1, z, _, h1, h2, rfl⟩
      · exact ⟨[], rfl, trivial⟩
      · simp [allL, Nd.all] at hy
    refine ⟨fun {kv ks} h hy => ?_, h0⟩
    rcases ndV_cases h with ⟨rfl, rfl⟩ | ⟨cs, n, o, rfl, ho, hc, hn, h5⟩
    · exact ⟨[], rfl, trivial⟩
    · obtain ⟨y, q1, q2⟩ := h0 h5 hy
      exact ⟨y, by rcases ho with rfl | rfl <;> simp [preV, hc, hn, q1], q2⟩
  | succ N ih =>
    have hL : ∀ {cs : List AVal} {ks : List Nd}, ndL cs = some ks → (allL ks).length ≤ N + 1 → ∃ y, preL cs = some y ∧ NdsAre y (allL ks) := by
      intro cs ks h hy
      rcases ndL_cons h with ⟨rfl, rfl⟩ | ⟨k, t, p, e, kv, r, y1, z, rfl, h1, h2, rfl⟩
      · exact ⟨[], rfl, trivial⟩
      · simp only [allL, Nd.all, List.cons_append, List.length_cons, List.length_append] at hy
        obtain ⟨a, a1, a2⟩ := ih.1 h1 (by omega)
        obtain ⟨b, b1, b2⟩ := ih.2 h2 (by omega)
        refine ⟨kid5 k t p e kv :: (a ++ b), by simp [preL, kid5, a1, b1], ?_⟩
        simp only [allL, Nd.all, List.cons_append]
        exact ⟨⟨k, t, p, e, kv, y1, rfl, rfl, h1⟩, a2.append b2⟩
    refine ⟨fun {kv ks} h hy => ?_, hL⟩
    rcases ndV_cases h with ⟨rfl, rfl⟩ | ⟨cs, n, o, rfl, ho, hc, hn, h5⟩
    · exact ⟨[], rfl, trivial⟩
    · obtain ⟨y, q1, q2⟩ := hL h5 hy
      exact ⟨y, by rcases ho with rfl | rfl <;> simp [preV, hc, hn, q1], q2⟩
theorem ndV_pre {kv : AVal} {ks : List Nd} (h : ndV kv = some ks) : ∃ y, preV kv = some y ∧ NdsAre y (allL ks) := nd_pre.1 h (Nat.le_refl _)

theorem steps_are : ∀ {y : List (List AVal)} {m : List Nd}, NdsAre y m → (∀ x ∈ m, x.text.length ≤ limit) → ∀ ok, stepsF (stp (Call C1) (Loop C1)) y ok = some (ok && m.all nodeOK)
  | [], [], _, _, ok => by simp [stepsF]
  | x :: y, n :: m, h, ht, ok => by
    obtain ⟨⟨k, t, p, e, kv, zs, rfl, rfl, hz⟩, h2⟩ := h
    have h3 := steps_are h2 (fun x hx => ht x (by simp [hx])) (ok && nodeOK (.mk k t zs))
    have h4 := stp_is (k := k) (t := t) (p := p) (e := e) (ht (.mk k t zs) (by simp)) hz ok
    show (stp (Call C1) (Loop C1) (kid5 k t p e kv) ok).bind (stepsF (stp (Call C1) (Loop C1)) y) = _
    rw [h4, Option.bind_some, h3, List.all_cons, Bool.and_assoc]
  | [], _ :: _, h, _, _ => h.elim
  | _ :: _, [], h, _, _ => h.elim

theorem stp_cont {x : List AVal} {ok b : Bool} (h : stp (Call C1) (Loop C1) x ok = some b) : ∃ k, stp (upto C1 k).1 (upto C1 k).2 x ok = some b := by
  unfold stp at h
  obtain ⟨⟨e1, A1, s1⟩, h1, hs⟩ := bind_some' h
  obtain ⟨k1, hk1⟩ := exec_cont C1 _ _ _ _ h1
  cases e1 <;> simp only at hs <;> try (cases hs; done)
  obtain ⟨⟨e2, A2, s2⟩, h2, hs⟩ := bind_some' hs
  obtain ⟨k2, hk2⟩ := exec_cont C1 _ _ _ _ h2
  refine ⟨max k1 k2, ?_⟩
  unfold stp
  rw [exec_mono (upto_le C1 (Nat.le_max_left k1 k2)).1 (upto_le C1 (Nat.le_max_left k1 k2)).2 _ _ _ _ hk1]
  simp only [Option.bind_some]
  rw [exec_mono (upto_le C1 (Nat.le_max_right k1 k2)).1 (upto_le C1 (Nat.le_max_right k1 k2)).2 _ _ _ _ hk2]
  exact hs
theorem steps_cont {y : List (List AVal)} : ∀ {ok b : Bool}, stepsF (stp (Call C1) (Loop C1)) y ok = some b → ∃ k, stepsF (stp (upto C1 k).1 (upto C1 k).2) y ok = some b := by
  induction y with
  | nil => intro ok b h; refine ⟨0, ?_⟩; simp only [stepsF] at h ⊢; exact h
  | cons x y ih =>
    intro ok b h
    simp only [stepsF] at h
    obtain ⟨c, h1, h2⟩ := bind_some' h
    obtain ⟨k1, hk1⟩ := stp_cont h1
    obtain ⟨k2, hk2⟩ := ih h2
    refine ⟨max k1 k2, ?_⟩
    simp only [stepsF]
    rw [stp_mono (Nat.le_max_left k1 k2) hk1, Option.bind_some]
    exact stepsF_mono (fun x ok b h => stp_mono (Nat.le_max_right k1 k2) h) hk2

theorem shaped_is {k : Int} {t : List UInt8} {p e : Int} {kv : AVal} {ks : List Nd} (hkv : ndV kv = some ks) (ht : ∀ x ∈ (Nd.mk k t ks).all, x.text.length ≤ limit) (s : ASt) :
    Call C2 384 [.agg (kid5 k t p e kv)] s = some (.bool (Nd.mk k t ks).ok, s) := by
  obtain ⟨y, hy, hr⟩ := ndV_pre hkv
  have hst := steps_are (y := kid5 k t p e kv :: y) (m := (Nd.mk k t ks).all) (by
    simp only [Nd.all]
    exact ⟨⟨k, t, p, e, kv, ks, rfl, rfl, hkv⟩, hr⟩) ht true
  obtain ⟨j, hj⟩ := steps_cont hst
  have hu := ndV_under _ hkv
  refine call_shaped (k := j) (by simp [kid5, underL, AVal.under, hu]) ?_ s
  unfold shapedK
  simp only [kid5]
  simp only [hy, Option.bind_some]
  rw [show [AVal.int IntKind.i64 k, AVal.str t, AVal.int IntKind.i64 p, AVal.int IntKind.i64 e, kv] = kid5 k t p e kv from rfl, hj]
  simp [Nd.ok]

end Go.Proofs.YtdhgdpokdhjanaaGreat.Abs
