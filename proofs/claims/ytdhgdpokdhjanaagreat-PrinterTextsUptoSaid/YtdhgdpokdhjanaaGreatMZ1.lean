/- The canonical text of a tree, in plain words; joining, indenting, and a kid's parentheses. -/
import Derived.Test.YtdhgdpokdhjanaaGreatMY12
set_option linter.unusedSimpArgs false
set_option linter.unusedVariables false
namespace Go.Proofs.YtdhgdpokdhjanaaGreat.Abs
open Go

/-! ### The text -/

/-- Whether a node needs parentheses as a kid. -/
def parB (k : Int) (t : List UInt8) (i : Int) (k2 : Int) (t2 : List UInt8) : Bool := decide (20 ≤ k2 ∧ k2 ≤ 29 ∧ lev k2 t2 < needV k (lev k t) i)
def kidT (k : Int) (t : List UInt8) (i : Int) (n : Nd) (s : List UInt8) : List UInt8 := if parB k t i n.kind n.text then [40] ++ (s ++ [41]) else s
def kidsT (k : Int) (t : List UInt8) : Nat → List Nd → List (List UInt8) → List (List UInt8)
  | i, n :: r, s :: q => kidT k t i n s :: kidsT k t (i + 1) r q
  | _, _, _ => []
def wrT (n : Nd) (s : List UInt8) : List UInt8 := if n.kind = 0 then [] else [58, 32] ++ s
def indT (d : Nat) : List UInt8 := Lib.repeatL [32, 32] d
def nd0 : Nd := .mk 0 [] []
def allT (k : Int) (t : List UInt8) (ks : List Nd) (ss : List (List UInt8)) : List UInt8 := Lib.join (kidsT k t 0 ks ss) [44, 32]

/-- The text of a node, out of those of its kids. -/
def form (k : Int) (t : List UInt8) (d : Nat) (ks : List Nd) (ss : List (List UInt8)) : List UInt8 :=
  let n (i : Nat) : Nd := ks.getD i nd0
  let x (i : Nat) : List UInt8 := ss.getD i []
  let c (i : Nat) : List UInt8 := kidT k t i (n i) (x i)
  if k = 2 then ss.flatMap (· ++ [10])
  else if k = 3 then [[114, 101, 99, 111, 114, 100, 32], t, [32, 123, 32], allT k t ks ss, [32, 125]].flatten
  else if k = 4 then [t, wrT (n 0) (x 0)].flatten
  else if k = 5 then [[112, 114, 111, 99, 32], t, [40], x 0, [41], wrT (n 1) (x 1), [32], x 2].flatten
  else if k = 6 then allT k t ks ss
  else if k = 7 then [t, wrT (n 0) (x 0)].flatten
  else if k = 8 then [[118, 97, 114, 32], [t, wrT (n 0) (x 0)].flatten].flatten
  else if k = 9 then t
  else if k = 10 then [[105, 110, 116, 91], t, [93]].flatten
  else if k = 11 then [123, 10] ++ ((ss.flatMap fun s => indT (d + 1) ++ (s ++ [10])) ++ (indT d ++ [125]))
  else if k = 12 then [[118, 97, 114, 32], t, wrT (n 0) (x 0), [32, 61, 32], c 1, [59]].flatten
  else if k = 13 then [c 0, [32, 61, 32], c 1, [59]].flatten
  else if k = 14 then (if (n 2).kind = 0 then [[105, 102, 32], c 0, [32], x 1].flatten else [[[105, 102, 32], c 0, [32], x 1].flatten, [32, 101, 108, 115, 101, 32], x 2].flatten)
  else if k = 15 then [[119, 104, 105, 108, 101, 32], c 0, [32], x 1].flatten
  else if k = 16 then [[102, 111, 114, 32], t, [32, 61, 32], c 0, [32, 116, 111, 32], c 1, [32], x 2].flatten
  else if k = 17 then (if (n 0).kind = 0 then [114, 101, 116, 117, 114, 110, 59] else [[114, 101, 116, 117, 114, 110, 32], c 0, [59]].flatten)
  else if k = 18 then [[97, 115, 115, 101, 114, 116, 32], c 0, [59]].flatten
  else if k = 19 then [[t, [40], allT k t ks ss, [41]].flatten, [59]].flatten
  else if k = 21 then [c 0, [91], c 1, [93]].flatten
  else if k = 22 then [c 0, [46], t].flatten
  else if k = 23 then [[108, 101, 110, 40], c 0, [41]].flatten
  else if k = 26 then [[91], allT k t ks ss, [93]].flatten
  else if k = 27 then [t, [40], allT k t ks ss, [41]].flatten
  else if k = 28 then (if t = [110, 111, 116] then [[110, 111, 116, 32], c 0].flatten else [t, c 0].flatten)
  else if k = 29 then [c 0, [32], t, [32], c 1].flatten
  else t

mutual
/-- The canonical text. -/
def txt : Nd → Nat → List UInt8
  | .mk k t ks, d => form k t d ks (txtL ks (if k = 11 then d + 1 else d))
def txtL : List Nd → Nat → List (List UInt8)
  | [], _ => []
  | n :: r, d => txt n d :: txtL r d
end
theorem txtL_length : ∀ (ks : List Nd) (d : Nat), (txtL ks d).length = ks.length
  | [], _ => rfl
  | _ :: r, d => by simp only [txtL, List.length_cons, txtL_length r d]
theorem txtL_get : ∀ (ks : List Nd) (d i : Nat), i < ks.length → (txtL ks d).getD i [] = txt (ks.getD i nd0) d
  | [], _, _, h => by simp at h
  | _ :: _, _, 0, _ => rfl
  | _ :: r, d, i + 1, h => by
    have := txtL_get r d i (by simpa using h)
    simpa [txtL] using this

/-! ### Joining -/

theorem strsOf_map : ∀ l : List (List UInt8), strsOf (l.map AVal.str) = some l
  | [] => rfl
  | x :: l => by simp only [List.map_cons, strsOf, strsOf_map l, Option.map_some]
theorem join_call (l : List (List UInt8)) (o : Own) (sep : List UInt8) (hl : l.length ≤ limit) (hj : (Lib.join l sep).length ≤ limit) (s : ASt) : Call C2 483 [.sl (l.map AVal.str) l.length o, .str sep] s = some (.str (Lib.join l sep), s) := by
  rw [Call_eq]
  show extJoin [.sl (l.map AVal.str) l.length o, .str sep] s = _
  cases l with
  | nil => rfl
  | cons x l =>
    have h := strsOf_map (x :: l)
    simp only [List.map_cons] at h ⊢
    simp only [extJoin, h, Option.bind_some, List.length_cons, List.length_map]
    rw [if_pos ⟨trivial, hl, hj⟩]
theorem join_nils (sep : List UInt8) (s : ASt) : Call C2 483 [.nils, .str sep] s = some (.str [], s) := by
  rw [Call_eq]
  rfl
theorem join_empty : ∀ l : List (List UInt8), Lib.join l [] = l.flatten
  | [] => rfl
  | x :: l => by
    rw [Lib.join_cons]
    unfold Lib.joinTail
    simp
theorem put_call (l : List (List UInt8)) (hl : l.length ≤ limit) (hj : l.flatten.length ≤ limit) : Call C2 346 [.sl (l.map AVal.str) l.length .exact] ⟨0, []⟩ = some (.str l.flatten, ⟨0, []⟩) := by
  have h := join_call l .exact [] hl (by rw [join_empty]; exact hj) ⟨0, []⟩
  rw [join_empty] at h
  rw [run_of (af := f346) rfl rfl, v_run rfl]
  have hu := under_strs 0 l
  generalize l.map AVal.str = c at h hu ⊢
  simp [f346, h, hu, vv, Frame.put, keepF, Opd.ev, Opd.taken, aun, params, AVal.cells, AVal.known, entries, ASt.push, loadAt, mk, ASt.get, getL, results, result, ASt.trunc, underL, AVal.under, Own.under, storeAt, mayPutL, mayPut, splice, ASt.set, setL, fill, zeros, List.map_cons, List.map_nil, List.nil_append, List.append_nil, Option.map_some, Option.bind_some]

/-! ### Indenting -/

theorem indT_length (d : Nat) : (indT d).length = d * 2 := Lib.repeatL_length _ _
theorem indT_succ (d : Nat) : indT (d + 1) = indT d ++ [32, 32] := by
  induction d with
  | zero => rfl
  | succ d ih =>
    show [32, 32] ++ indT (d + 1) = ([32, 32] ++ indT d) ++ [32, 32]
    rw [ih, List.append_assoc]
theorem ind_call (d : Nat) (hd : d ≤ 1000000) : Call C2 83 [.agg [.int .i64 d]] ⟨0, []⟩ = some (.str (indT d), ⟨0, []⟩) := by
  have h : ∀ s, Call C2 485 [.str [32, 32], .int .i64 d] s = some (.str (indT d), s) := fun s => by
    rw [Call_eq]
    show extRepeat [.str [32, 32], .int .i64 d] s = _
    have hlim : limit = 2 ^ 36 := rfl
    simp only [extRepeat]
    rw [if_pos ⟨by omega, by omega, by simp only [List.length_cons, List.length_nil, Int.toNat_natCast]; omega⟩]
    rfl
  rw [run_of (af := f83) rfl rfl, v_run rfl]
  simp [f83, h, vv, Frame.put, keepF, Opd.ev, Opd.taken, aun, params, AVal.cells, AVal.known, entries, ASt.push, loadAt, mk, ASt.get, getL, results, result, ASt.trunc, underL, AVal.under, Own.under, storeAt, mayPutL, mayPut, splice, ASt.set, setL, fill, zeros, List.map_cons, List.map_nil, List.nil_append, List.append_nil, Option.map_some, Option.bind_some]

def ind2Loop : ACode := match f230.code with
  | .seq _ (.seq _ (.seq (.seq _ (.block _ (.loop b _))) _)) => b
  | _ => .bad
theorem ind2_loop (d : Nat) (hd : d ≤ 1000000) : ∀ (r i : Nat), i + r = d →
    Loop C2 ind2Loop [0, 3, 4] [(0, .int .i64 d), (3, .str (indT i)), (4, .int .i64 i)] ⟨0, []⟩ = some (.exit 0, [(0, .int .i64 d), (3, .str (indT d)), (4, .int .i64 d), (7, .bool false)], ⟨0, []⟩)
  | 0, i, h => by
    have : i = d := by omega
    subst this
    rw [Loop_eq, v_stepLoop]
    simp [ind2Loop, f230, vv, Frame.put, keepF, Opd.ev, Opd.taken, aun, params, AVal.cells, AVal.known, entries, ASt.push, loadAt, mk, ASt.get, getL, results, result, ASt.trunc, underL, AVal.under, Own.under, storeAt, mayPutL, mayPut, splice, ASt.set, setL, fill, zeros, List.map_cons, List.map_nil, List.nil_append, List.append_nil, Option.map_some, Option.bind_some]
  | r + 1, i, h => by
    have ih := ind2_loop d hd r (i + 1) (by omega)
    have hlt : i < d := by omega
    have hw : IntKind.wrap .i64 ((i : Int) + 1) = ((i + 1 : Nat) : Int) := by
      rw [wrap_i64 (by omega) (by omega)]; rfl
    have hl : (indT i).length + 1 + 1 ≤ limit := by
      have hlim : limit = 2 ^ 36 := rfl
      rw [indT_length]; omega
    rw [indT_succ] at ih
    rw [← ih, Loop_eq, v_stepLoop]
    simp [ind2Loop, f230, hlt, hl, hw, vv, Frame.put, keepF, Opd.ev, Opd.taken, aun, params, AVal.cells, AVal.known, entries, ASt.push, loadAt, mk, ASt.get, getL, results, result, ASt.trunc, underL, AVal.under, Own.under, storeAt, mayPutL, mayPut, splice, ASt.set, setL, fill, zeros, List.map_cons, List.map_nil, List.nil_append, List.append_nil, Option.map_some, Option.bind_some]
theorem ind2_call (d : Nat) (hd : d ≤ 1000000) : Call C2 230 [.int .i64 d] ⟨0, []⟩ = some (.str (indT d), ⟨0, []⟩) := by
  have h := ind2_loop d hd d 0 (by omega)
  rw [run_of (af := f230) rfl rfl, v_run rfl]
  simp [ind2Loop, f230, show indT 0 = [] from rfl] at h
  simp [f230, h, vv, Frame.put, keepF, Opd.ev, Opd.taken, aun, params, AVal.cells, AVal.known, entries, ASt.push, loadAt, mk, ASt.get, getL, results, result, ASt.trunc, underL, AVal.under, Own.under, storeAt, mayPutL, mayPut, splice, ASt.set, setL, fill, zeros, List.map_cons, List.map_nil, List.nil_append, List.append_nil, Option.map_some, Option.bind_some]

/-! ### A kid -/

theorem ndV_read {kv : AVal} {z : List Nd} (h : ndV kv = some z) (r c : Nat) : kv.read r c = kv := by
  rcases ndV_cases h with ⟨rfl, _⟩ | ⟨_, _, _, rfl, rfl | rfl, _⟩ <;> rfl

section
variable {k : Int} {t : List UInt8} {p e : Int} {kv : AVal} {ks : List Nd}

theorem par_call (hkv : ndV kv = some ks) (i : Int) (k2 : Int) (t2 : List UInt8) (p2 e2 : Int) {kv2 : AVal} {ks2 : List Nd} (hkv2 : ndV kv2 = some ks2) :
    Call C2 341 [.agg (kid5 k t p e kv), .int .i64 i, .agg (kid5 k2 t2 p2 e2 kv2)] ⟨0, []⟩ = some (.bool (parB k t i k2 t2), ⟨0, []⟩) ∧
    Call C2 226 [.agg (kid5 k t p e kv), .int .i64 i, .agg (kid5 k2 t2 p2 e2 kv2)] ⟨0, []⟩ = some (.bool (parB k t i k2 t2), ⟨0, []⟩) := by
  have hst := ndV_strip hkv
  have hu := ndV_under _ hkv
  have hst2 := ndV_strip hkv2
  have hu2 := ndV_under _ hkv2
  have c3 := paren_call k t p e kv hst hu i k2 t2 p2 e2 kv2 hst2 hu2 _ (needed_call k t p e kv hst hu i)
  have c4 := paren2_call k t p e kv hst hu i k2 t2 p2 e2 kv2 hst2 hu2
  exact ⟨c3, c4⟩

/-- The node with an index. -/
theorem nd_at (hkv : ndV kv = some ks) {i : Nat} (hi : i < ks.length) : ∃ cs o k2 t2 p2 e2 kv2 ks2, kv = .sl cs ks.length o ∧ (o = .none ∨ o = .exact) ∧ underL 0 cs = true ∧ ks.length ≤ limit ∧ ks.getD i nd0 = .mk k2 t2 ks2 ∧ ndV kv2 = some ks2 ∧ cut cs (i * 5) 5 = some (kid5 k2 t2 p2 e2 kv2) := by
  rcases ndV_cases hkv with ⟨rfl, rfl⟩ | ⟨cs, n, o, rfl, ho, hcl, hn, hL⟩
  · simp at hi
  · have hn2 : n = ks.length := by have := ndL_length hL; omega
    subst hn2
    obtain ⟨_, k1, t1, p1, e1, kv1, zs, h1, h2, h3⟩ := ndL_get hL (i := i) (n := ks[i]) (r := ks.drop (i + 1)) (List.drop_eq_getElem_cons hi)
    refine ⟨cs, o, k1, t1, p1, e1, kv1, zs, rfl, ho, ndL_under _ hL, hn, ?_, h2, h3⟩
    rw [List.getD_eq_getElem?_getD, List.getElem?_eq_getElem hi]
    exact h1

theorem kidT_f {i : Int} {n : Nd} {s : List UInt8} (h : parB k t i n.kind n.text = false) : kidT k t i n s = s := by
  unfold kidT
  rw [h]
  rfl
theorem kidT_t {i : Int} {n : Nd} {s : List UInt8} (h : parB k t i n.kind n.text = true) : kidT k t i n s = [40] ++ (s ++ [41]) := by
  unfold kidT
  rw [h]
  rfl

/-- What is known of a kid: its text. -/
def KidW (f : Nat) (d : Int) (ks : List Nd) (kv : AVal) (i : Nat) (s : List UInt8) : Prop := ∀ cs o k2 t2 p2 e2 kv2 ks2, kv = .sl cs ks.length o → ks.getD i nd0 = .mk k2 t2 ks2 → ndV kv2 = some ks2 → cut cs (i * 5) 5 = some (kid5 k2 t2 p2 e2 kv2) →
  Call C2 f [.agg [.int .i64 d], .agg (kid5 k2 t2 p2 e2 kv2)] ⟨0, []⟩ = some (.str s, ⟨0, []⟩)

theorem kid_w {d : Int} (hkv : ndV kv = some ks) {i : Nat} (hi : i < ks.length) {s : List UInt8} (hw : KidW 97 d ks kv i s) (hlen : (kidT k t i (ks.getD i nd0) s).length ≤ limit) :
    Call C2 85 [.agg [.int .i64 d], .agg (kid5 k t p e kv), .int .i64 i] ⟨0, []⟩ = some (.str (kidT k t i (ks.getD i nd0) s), ⟨0, []⟩) := by
  obtain ⟨cs, o, k2, t2, p2, e2, kv2, ks2, rfl, ho, hu, hn, hnd, hkv2, hcut⟩ := nd_at hkv hi
  have hc := hw _ _ _ _ _ _ _ _ rfl hnd hkv2 hcut
  have hp := (par_call (k := k) (t := t) (p := p) (e := e) hkv i k2 t2 p2 e2 hkv2).1
  have hu2 := ndV_under _ hkv2
  rw [hnd] at hlen ⊢
  simp only [kid5] at hc hp hcut
  rw [run_of (af := f85) rfl rfl, v_run rfl]
  have hi2 : (i : Int) < (ks.length : Int) := by omega
  cases hb : parB k t i k2 t2
  · rw [hb] at hp
    rw [kidT_f (n := .mk k2 t2 ks2) hb]
    rcases ho with rfl | rfl <;> simp [f85, kid5, hi2, hi, hcut, hc, hp, hu, hu2, vv, Frame.put, keepF, Opd.ev, Opd.taken, aun, params, AVal.cells, AVal.known, entries, ASt.push, loadAt, mk, ASt.get, getL, results, result, ASt.trunc, underL, AVal.under, Own.under, storeAt, mayPutL, mayPut, splice, ASt.set, setL, fill, zeros, List.map_cons, List.map_nil, List.nil_append, List.append_nil, Option.map_some, Option.bind_some]
  · rw [hb] at hp
    rw [kidT_t (n := .mk k2 t2 ks2) hb] at hlen ⊢
    simp only [List.length_append, List.length_cons, List.length_nil] at hlen
    have l1 : s.length + 1 ≤ limit := by omega
    have l2 : s.length + 1 + 1 ≤ limit := by omega
    have l3 : 1 + s.length ≤ limit := by omega
    rcases ho with rfl | rfl <;> simp [f85, kid5, hi2, hi, hcut, hc, hp, hu, hu2, l1, l2, l3, vv, Frame.put, keepF, Opd.ev, Opd.taken, aun, params, AVal.cells, AVal.known, entries, ASt.push, loadAt, mk, ASt.get, getL, results, result, ASt.trunc, underL, AVal.under, Own.under, storeAt, mayPutL, mayPut, splice, ASt.set, setL, fill, zeros, List.map_cons, List.map_nil, List.nil_append, List.append_nil, Option.map_some, Option.bind_some]
end
end Go.Proofs.YtdhgdpokdhjanaaGreat.Abs
/- The printer's methods that put texts one behind the other; written by a program (mkwr.py). -/
namespace Go.Proofs.YtdhgdpokdhjanaaGreat.Abs
open Go

section
variable {k : Int} {t : List UInt8} {p e d : Int} {kv : AVal} {ks : List Nd} {oa ob : AObj}

theorem w_94 (hkv : ndV kv = some ks) {cW0 : List UInt8} (hcW0 : KidW 98 d ks kv 0 cW0) (hi : 0 < ks.length) (hlen : [t, cW0].flatten.length ≤ limit) : Call C2 94 [.agg [.int .i64 d], .agg (kid5 k t p e kv)] ⟨0, []⟩ = some (.str [t, cW0].flatten, ⟨0, []⟩) := by
  have hst := ndV_strip hkv
  have hu0 := ndV_under _ hkv
  have hp := put_call [t, cW0] (le_limit (by simp)) hlen
  generalize [t, cW0].flatten = R at hp ⊢
  simp only [List.map_cons, List.map_nil, List.length_cons, List.length_nil, Nat.reduceAdd, Nat.zero_add] at hp
  obtain ⟨cs, o, k0, t0, p0, e0, kv0, ks0, rfl, ho, hu, hn0', hnd0, hkv0, hcut0⟩ := nd_at hkv (i := 0) (by omega)
  have hc0 := hcW0 _ _ _ _ _ _ _ _ rfl hnd0 hkv0 hcut0
  have hz0 : cut cs 0 5 = some (kid5 k0 t0 p0 e0 kv0) := hcut0
  have hv0 := ndV_under _ hkv0
  have hl0 : 0 < ks.length := by omega
  have hm0 : (0 : Int) < (ks.length : Int) := by omega
  simp only [kid5] at hc0 hz0
  rw [run_of (af := f94) rfl rfl, v_run rfl]
  rcases ho with rfl | rfl <;> simp [f94, kid5, hu, hc0, hz0, hv0, hl0, hm0, hp, vv, Frame.put, keepF, Opd.ev, Opd.taken, aun, params, AVal.cells, AVal.known, entries, ASt.push, loadAt, mk, ASt.get, getL, results, result, ASt.trunc, underL, AVal.under, Own.under, storeAt, mayPutL, mayPut, splice, ASt.set, setL, fill, zeros, List.map_cons, List.map_nil, List.nil_append, List.append_nil, Option.map_some, Option.bind_some]
theorem w_77 (hkv : ndV kv = some ks) {cA : List UInt8} (hcA : Call C2 71 [.agg [.int .i64 d], .agg (kid5 k t p e kv)] ⟨0, []⟩ = some (.str cA, ⟨0, []⟩)) (hlen : [t, [40], cA, [41]].flatten.length ≤ limit) : Call C2 77 [.agg [.int .i64 d], .agg (kid5 k t p e kv)] ⟨0, []⟩ = some (.str [t, [40], cA, [41]].flatten, ⟨0, []⟩) := by
  have hst := ndV_strip hkv
  have hu0 := ndV_under _ hkv
  have hp := put_call [t, [40], cA, [41]] (le_limit (by simp)) hlen
  generalize [t, [40], cA, [41]].flatten = R at hp ⊢
  simp only [List.map_cons, List.map_nil, List.length_cons, List.length_nil, Nat.reduceAdd, Nat.zero_add] at hp
  simp only [kid5] at hcA
  rw [run_of (af := f77) rfl rfl, v_run rfl]
  simp [f77, kid5, hst, hu0, hcA, hp, vv, Frame.put, keepF, Opd.ev, Opd.taken, aun, params, AVal.cells, AVal.known, entries, ASt.push, loadAt, mk, ASt.get, getL, results, result, ASt.trunc, underL, AVal.under, Own.under, storeAt, mayPutL, mayPut, splice, ASt.set, setL, fill, zeros, List.map_cons, List.map_nil, List.nil_append, List.append_nil, Option.map_some, Option.bind_some]
theorem u_92 (hkv : ndV kv = some ks) {cA : List UInt8} (hcA : Call C2 71 [.agg [.int .i64 d], .agg (kid5 k t p e kv)] ⟨0, []⟩ = some (.str cA, ⟨0, []⟩)) (hlen : [[114, 101, 99, 111, 114, 100, 32], t, [32, 123, 32], cA, [32, 125]].flatten.length ≤ limit) : Call C2 92 [.agg [.int .i64 d], .agg (kid5 k t p e kv)] ⟨2, [oa, ob]⟩ = some (.str [[114, 101, 99, 111, 114, 100, 32], t, [32, 123, 32], cA, [32, 125]].flatten, ⟨2, [oa, ob]⟩) := by
  have hst := ndV_strip hkv
  have hu0 := ndV_under _ hkv
  have hp := put_call [[114, 101, 99, 111, 114, 100, 32], t, [32, 123, 32], cA, [32, 125]] (le_limit (by simp)) hlen
  generalize [[114, 101, 99, 111, 114, 100, 32], t, [32, 123, 32], cA, [32, 125]].flatten = R at hp ⊢
  simp only [List.map_cons, List.map_nil, List.length_cons, List.length_nil, Nat.reduceAdd, Nat.zero_add] at hp
  simp only [kid5] at hcA
  rw [run_of (af := f92) rfl rfl, v_run rfl]
  simp [f92, kid5, hst, hu0, hcA, hp, vv, Frame.put, keepF, Opd.ev, Opd.taken, aun, params, AVal.cells, AVal.known, entries, ASt.push, loadAt, mk, ASt.get, getL, results, result, ASt.trunc, underL, AVal.under, Own.under, storeAt, mayPutL, mayPut, splice, ASt.set, setL, fill, zeros, List.map_cons, List.map_nil, List.nil_append, List.append_nil, Option.map_some, Option.bind_some]
theorem u_94 (hkv : ndV kv = some ks) {cW0 : List UInt8} (hcW0 : KidW 98 d ks kv 0 cW0) (hi : 0 < ks.length) (hlen : [t, cW0].flatten.length ≤ limit) : Call C2 94 [.agg [.int .i64 d], .agg (kid5 k t p e kv)] ⟨2, [oa, ob]⟩ = some (.str [t, cW0].flatten, ⟨2, [oa, ob]⟩) := by
  have hst := ndV_strip hkv
  have hu0 := ndV_under _ hkv
  have hp := put_call [t, cW0] (le_limit (by simp)) hlen
  generalize [t, cW0].flatten = R at hp ⊢
  simp only [List.map_cons, List.map_nil, List.length_cons, List.length_nil, Nat.reduceAdd, Nat.zero_add] at hp
  obtain ⟨cs, o, k0, t0, p0, e0, kv0, ks0, rfl, ho, hu, hn0', hnd0, hkv0, hcut0⟩ := nd_at hkv (i := 0) (by omega)
  have hc0 := hcW0 _ _ _ _ _ _ _ _ rfl hnd0 hkv0 hcut0
  have hz0 : cut cs 0 5 = some (kid5 k0 t0 p0 e0 kv0) := hcut0
  have hv0 := ndV_under _ hkv0
  have hl0 : 0 < ks.length := by omega
  have hm0 : (0 : Int) < (ks.length : Int) := by omega
  simp only [kid5] at hc0 hz0
  rw [run_of (af := f94) rfl rfl, v_run rfl]
  rcases ho with rfl | rfl <;> simp [f94, kid5, hu, hc0, hz0, hv0, hl0, hm0, hp, vv, Frame.put, keepF, Opd.ev, Opd.taken, aun, params, AVal.cells, AVal.known, entries, ASt.push, loadAt, mk, ASt.get, getL, results, result, ASt.trunc, underL, AVal.under, Own.under, storeAt, mayPutL, mayPut, splice, ASt.set, setL, fill, zeros, List.map_cons, List.map_nil, List.nil_append, List.append_nil, Option.map_some, Option.bind_some]
theorem u_90 (hkv : ndV kv = some ks) {cA cW1 cX2 : List UInt8} (hcA : KidW 71 d ks kv 0 cA) (hcW1 : KidW 98 d ks kv 1 cW1) (hcX2 : KidW 97 d ks kv 2 cX2) (hi : 2 < ks.length) (hlen : [[112, 114, 111, 99, 32], t, [40], cA, [41], cW1, [32], cX2].flatten.length ≤ limit) : Call C2 90 [.agg [.int .i64 d], .agg (kid5 k t p e kv)] ⟨2, [oa, ob]⟩ = some (.str [[112, 114, 111, 99, 32], t, [40], cA, [41], cW1, [32], cX2].flatten, ⟨2, [oa, ob]⟩) := by
  have hst := ndV_strip hkv
  have hu0 := ndV_under _ hkv
  have hp := put_call [[112, 114, 111, 99, 32], t, [40], cA, [41], cW1, [32], cX2] (le_limit (by simp)) hlen
  generalize [[112, 114, 111, 99, 32], t, [40], cA, [41], cW1, [32], cX2].flatten = R at hp ⊢
  simp only [List.map_cons, List.map_nil, List.length_cons, List.length_nil, Nat.reduceAdd, Nat.zero_add] at hp
  obtain ⟨cs, o, k0, t0, p0, e0, kv0, ks0, rfl, ho, hu, hn0', hnd0, hkv0, hcut0⟩ := nd_at hkv (i := 0) (by omega)
  have hc0 := hcA _ _ _ _ _ _ _ _ rfl hnd0 hkv0 hcut0
  have hz0 : cut cs 0 5 = some (kid5 k0 t0 p0 e0 kv0) := hcut0
  have hv0 := ndV_under _ hkv0
  have hl0 : 0 < ks.length := by omega
  have hm0 : (0 : Int) < (ks.length : Int) := by omega
  obtain ⟨cs1', o1', k1, t1, p1, e1, kv1, ks1, hq1, ho1, hu1, hn1', hnd1, hkv1, hcut1⟩ := nd_at hkv (i := 1) (by omega)
  cases hq1
  have hc1 := hcW1 _ _ _ _ _ _ _ _ rfl hnd1 hkv1 hcut1
  have hz1 : cut cs 5 5 = some (kid5 k1 t1 p1 e1 kv1) := hcut1
  have hv1 := ndV_under _ hkv1
  have hl1 : 1 < ks.length := by omega
  have hm1 : (1 : Int) < (ks.length : Int) := by omega
  obtain ⟨cs2', o2', k2, t2, p2, e2, kv2, ks2, hq2, ho2, hu2, hn2', hnd2, hkv2, hcut2⟩ := nd_at hkv (i := 2) (by omega)
  cases hq2
  have hc2 := hcX2 _ _ _ _ _ _ _ _ rfl hnd2 hkv2 hcut2
  have hz2 : cut cs 10 5 = some (kid5 k2 t2 p2 e2 kv2) := hcut2
  have hv2 := ndV_under _ hkv2
  have hl2 : 2 < ks.length := by omega
  have hm2 : (2 : Int) < (ks.length : Int) := by omega
  simp only [kid5] at hc0 hc1 hc2 hz0 hz1 hz2
  rw [run_of (af := f90) rfl rfl, v_run rfl]
  rcases ho with rfl | rfl <;> simp [f90, kid5, hu, hc0, hz0, hv0, hl0, hm0, hc1, hz1, hv1, hl1, hm1, hc2, hz2, hv2, hl2, hm2, hp, vv, Frame.put, keepF, Opd.ev, Opd.taken, aun, params, AVal.cells, AVal.known, entries, ASt.push, loadAt, mk, ASt.get, getL, results, result, ASt.trunc, underL, AVal.under, Own.under, storeAt, mayPutL, mayPut, splice, ASt.set, setL, fill, zeros, List.map_cons, List.map_nil, List.nil_append, List.append_nil, Option.map_some, Option.bind_some]
theorem u_78 (hkv : ndV kv = some ks) {cC : List UInt8} (hcC : Call C2 94 [.agg [.int .i64 d], .agg (kid5 k t p e kv)] ⟨0, []⟩ = some (.str cC, ⟨0, []⟩)) (hlen : [[118, 97, 114, 32], cC].flatten.length ≤ limit) : Call C2 78 [.agg [.int .i64 d], .agg (kid5 k t p e kv)] ⟨2, [oa, ob]⟩ = some (.str [[118, 97, 114, 32], cC].flatten, ⟨2, [oa, ob]⟩) := by
  have hst := ndV_strip hkv
  have hu0 := ndV_under _ hkv
  have hp := put_call [[118, 97, 114, 32], cC] (le_limit (by simp)) hlen
  generalize [[118, 97, 114, 32], cC].flatten = R at hp ⊢
  simp only [List.map_cons, List.map_nil, List.length_cons, List.length_nil, Nat.reduceAdd, Nat.zero_add] at hp
  simp only [kid5] at hcC
  rw [run_of (af := f78) rfl rfl, v_run rfl]
  simp [f78, kid5, hst, hu0, hcC, hp, vv, Frame.put, keepF, Opd.ev, Opd.taken, aun, params, AVal.cells, AVal.known, entries, ASt.push, loadAt, mk, ASt.get, getL, results, result, ASt.trunc, underL, AVal.under, Own.under, storeAt, mayPutL, mayPut, splice, ASt.set, setL, fill, zeros, List.map_cons, List.map_nil, List.nil_append, List.append_nil, Option.map_some, Option.bind_some]
theorem u_72 (hkv : ndV kv = some ks)  (hlen : [[105, 110, 116, 91], t, [93]].flatten.length ≤ limit) : Call C2 72 [.agg [.int .i64 d], .agg (kid5 k t p e kv)] ⟨2, [oa, ob]⟩ = some (.str [[105, 110, 116, 91], t, [93]].flatten, ⟨2, [oa, ob]⟩) := by
  have hst := ndV_strip hkv
  have hu0 := ndV_under _ hkv
  have hp := put_call [[105, 110, 116, 91], t, [93]] (le_limit (by simp)) hlen
  generalize [[105, 110, 116, 91], t, [93]].flatten = R at hp ⊢
  simp only [List.map_cons, List.map_nil, List.length_cons, List.length_nil, Nat.reduceAdd, Nat.zero_add] at hp
  rw [run_of (af := f72) rfl rfl, v_run rfl]
  simp [f72, kid5, hst, hu0, hp, vv, Frame.put, keepF, Opd.ev, Opd.taken, aun, params, AVal.cells, AVal.known, entries, ASt.push, loadAt, mk, ASt.get, getL, results, result, ASt.trunc, underL, AVal.under, Own.under, storeAt, mayPutL, mayPut, splice, ASt.set, setL, fill, zeros, List.map_cons, List.map_nil, List.nil_append, List.append_nil, Option.map_some, Option.bind_some]
theorem u_81 (hkv : ndV kv = some ks) {cK1 cW0 : List UInt8} (hcW0 : KidW 98 d ks kv 0 cW0) (hcK1 : Call C2 85 [.agg [.int .i64 d], .agg (kid5 k t p e kv), .int .i64 1] ⟨0, []⟩ = some (.str cK1, ⟨0, []⟩)) (hi : 0 < ks.length) (hlen : [[118, 97, 114, 32], t, cW0, [32, 61, 32], cK1, [59]].flatten.length ≤ limit) : Call C2 81 [.agg [.int .i64 d], .agg (kid5 k t p e kv)] ⟨2, [oa, ob]⟩ = some (.str [[118, 97, 114, 32], t, cW0, [32, 61, 32], cK1, [59]].flatten, ⟨2, [oa, ob]⟩) := by
  have hst := ndV_strip hkv
  have hu0 := ndV_under _ hkv
  have hp := put_call [[118, 97, 114, 32], t, cW0, [32, 61, 32], cK1, [59]] (le_limit (by simp)) hlen
  generalize [[118, 97, 114, 32], t, cW0, [32, 61, 32], cK1, [59]].flatten = R at hp ⊢
  simp only [List.map_cons, List.map_nil, List.length_cons, List.length_nil, Nat.reduceAdd, Nat.zero_add] at hp
  obtain ⟨cs, o, k0, t0, p0, e0, kv0, ks0, rfl, ho, hu, hn0', hnd0, hkv0, hcut0⟩ := nd_at hkv (i := 0) (by omega)
  have hc0 := hcW0 _ _ _ _ _ _ _ _ rfl hnd0 hkv0 hcut0
  have hz0 : cut cs 0 5 = some (kid5 k0 t0 p0 e0 kv0) := hcut0
  have hv0 := ndV_under _ hkv0
  have hl0 : 0 < ks.length := by omega
  have hm0 : (0 : Int) < (ks.length : Int) := by omega
  simp only [kid5] at hcK1 hc0 hz0
  rw [run_of (af := f81) rfl rfl, v_run rfl]
  rcases ho with rfl | rfl <;> simp [f81, kid5, hu, hc0, hz0, hv0, hl0, hm0, hcK1, hp, vv, Frame.put, keepF, Opd.ev, Opd.taken, aun, params, AVal.cells, AVal.known, entries, ASt.push, loadAt, mk, ASt.get, getL, results, result, ASt.trunc, underL, AVal.under, Own.under, storeAt, mayPutL, mayPut, splice, ASt.set, setL, fill, zeros, List.map_cons, List.map_nil, List.nil_append, List.append_nil, Option.map_some, Option.bind_some]
theorem u_74 (hkv : ndV kv = some ks) {cK0 cK1 : List UInt8} (hcK0 : Call C2 85 [.agg [.int .i64 d], .agg (kid5 k t p e kv), .int .i64 0] ⟨0, []⟩ = some (.str cK0, ⟨0, []⟩)) (hcK1 : Call C2 85 [.agg [.int .i64 d], .agg (kid5 k t p e kv), .int .i64 1] ⟨0, []⟩ = some (.str cK1, ⟨0, []⟩)) (hlen : [cK0, [32, 61, 32], cK1, [59]].flatten.length ≤ limit) : Call C2 74 [.agg [.int .i64 d], .agg (kid5 k t p e kv)] ⟨2, [oa, ob]⟩ = some (.str [cK0, [32, 61, 32], cK1, [59]].flatten, ⟨2, [oa, ob]⟩) := by
  have hst := ndV_strip hkv
  have hu0 := ndV_under _ hkv
  have hp := put_call [cK0, [32, 61, 32], cK1, [59]] (le_limit (by simp)) hlen
  generalize [cK0, [32, 61, 32], cK1, [59]].flatten = R at hp ⊢
  simp only [List.map_cons, List.map_nil, List.length_cons, List.length_nil, Nat.reduceAdd, Nat.zero_add] at hp
  simp only [kid5] at hcK0 hcK1
  rw [run_of (af := f74) rfl rfl, v_run rfl]
  simp [f74, kid5, hst, hu0, hcK0, hcK1, hp, vv, Frame.put, keepF, Opd.ev, Opd.taken, aun, params, AVal.cells, AVal.known, entries, ASt.push, loadAt, mk, ASt.get, getL, results, result, ASt.trunc, underL, AVal.under, Own.under, storeAt, mayPutL, mayPut, splice, ASt.set, setL, fill, zeros, List.map_cons, List.map_nil, List.nil_append, List.append_nil, Option.map_some, Option.bind_some]
theorem u_88 (hkv : ndV kv = some ks) {cK0 cX1 : List UInt8} (hcK0 : Call C2 85 [.agg [.int .i64 d], .agg (kid5 k t p e kv), .int .i64 0] ⟨0, []⟩ = some (.str cK0, ⟨0, []⟩)) (hcX1 : KidW 97 d ks kv 1 cX1) (hi : 1 < ks.length) (hlen : [[119, 104, 105, 108, 101, 32], cK0, [32], cX1].flatten.length ≤ limit) : Call C2 88 [.agg [.int .i64 d], .agg (kid5 k t p e kv)] ⟨2, [oa, ob]⟩ = some (.str [[119, 104, 105, 108, 101, 32], cK0, [32], cX1].flatten, ⟨2, [oa, ob]⟩) := by
  have hst := ndV_strip hkv
  have hu0 := ndV_under _ hkv
  have hp := put_call [[119, 104, 105, 108, 101, 32], cK0, [32], cX1] (le_limit (by simp)) hlen
  generalize [[119, 104, 105, 108, 101, 32], cK0, [32], cX1].flatten = R at hp ⊢
  simp only [List.map_cons, List.map_nil, List.length_cons, List.length_nil, Nat.reduceAdd, Nat.zero_add] at hp
  obtain ⟨cs, o, k1, t1, p1, e1, kv1, ks1, rfl, ho, hu, hn1', hnd1, hkv1, hcut1⟩ := nd_at hkv (i := 1) (by omega)
  have hc1 := hcX1 _ _ _ _ _ _ _ _ rfl hnd1 hkv1 hcut1
  have hz1 : cut cs 5 5 = some (kid5 k1 t1 p1 e1 kv1) := hcut1
  have hv1 := ndV_under _ hkv1
  have hl1 : 1 < ks.length := by omega
  have hm1 : (1 : Int) < (ks.length : Int) := by omega
  simp only [kid5] at hcK0 hc1 hz1
  rw [run_of (af := f88) rfl rfl, v_run rfl]
  rcases ho with rfl | rfl <;> simp [f88, kid5, hu, hc1, hz1, hv1, hl1, hm1, hcK0, hp, vv, Frame.put, keepF, Opd.ev, Opd.taken, aun, params, AVal.cells, AVal.known, entries, ASt.push, loadAt, mk, ASt.get, getL, results, result, ASt.trunc, underL, AVal.under, Own.under, storeAt, mayPutL, mayPut, splice, ASt.set, setL, fill, zeros, List.map_cons, List.map_nil, List.nil_append, List.append_nil, Option.map_some, Option.bind_some]
theorem u_80 (hkv : ndV kv = some ks) {cK0 cK1 cX2 : List UInt8} (hcK0 : Call C2 85 [.agg [.int .i64 d], .agg (kid5 k t p e kv), .int .i64 0] ⟨0, []⟩ = some (.str cK0, ⟨0, []⟩)) (hcK1 : Call C2 85 [.agg [.int .i64 d], .agg (kid5 k t p e kv), .int .i64 1] ⟨0, []⟩ = some (.str cK1, ⟨0, []⟩)) (hcX2 : KidW 97 d ks kv 2 cX2) (hi : 2 < ks.length) (hlen : [[102, 111, 114, 32], t, [32, 61, 32], cK0, [32, 116, 111, 32], cK1, [32], cX2].flatten.length ≤ limit) : Call C2 80 [.agg [.int .i64 d], .agg (kid5 k t p e kv)] ⟨2, [oa, ob]⟩ = some (.str [[102, 111, 114, 32], t, [32, 61, 32], cK0, [32, 116, 111, 32], cK1, [32], cX2].flatten, ⟨2, [oa, ob]⟩) := by
  have hst := ndV_strip hkv
  have hu0 := ndV_under _ hkv
  have hp := put_call [[102, 111, 114, 32], t, [32, 61, 32], cK0, [32, 116, 111, 32], cK1, [32], cX2] (le_limit (by simp)) hlen
  generalize [[102, 111, 114, 32], t, [32, 61, 32], cK0, [32, 116, 111, 32], cK1, [32], cX2].flatten = R at hp ⊢
  simp only [List.map_cons, List.map_nil, List.length_cons, List.length_nil, Nat.reduceAdd, Nat.zero_add] at hp
  obtain ⟨cs, o, k2, t2, p2, e2, kv2, ks2, rfl, ho, hu, hn2', hnd2, hkv2, hcut2⟩ := nd_at hkv (i := 2) (by omega)
  have hc2 := hcX2 _ _ _ _ _ _ _ _ rfl hnd2 hkv2 hcut2
  have hz2 : cut cs 10 5 = some (kid5 k2 t2 p2 e2 kv2) := hcut2
  have hv2 := ndV_under _ hkv2
  have hl2 : 2 < ks.length := by omega
  have hm2 : (2 : Int) < (ks.length : Int) := by omega
  simp only [kid5] at hcK0 hcK1 hc2 hz2
  rw [run_of (af := f80) rfl rfl, v_run rfl]
  rcases ho with rfl | rfl <;> simp [f80, kid5, hu, hc2, hz2, hv2, hl2, hm2, hcK0, hcK1, hp, vv, Frame.put, keepF, Opd.ev, Opd.taken, aun, params, AVal.cells, AVal.known, entries, ASt.push, loadAt, mk, ASt.get, getL, results, result, ASt.trunc, underL, AVal.under, Own.under, storeAt, mayPutL, mayPut, splice, ASt.set, setL, fill, zeros, List.map_cons, List.map_nil, List.nil_append, List.append_nil, Option.map_some, Option.bind_some]
theorem u_73 (hkv : ndV kv = some ks) {cK0 : List UInt8} (hcK0 : Call C2 85 [.agg [.int .i64 d], .agg (kid5 k t p e kv), .int .i64 0] ⟨0, []⟩ = some (.str cK0, ⟨0, []⟩)) (hlen : [[97, 115, 115, 101, 114, 116, 32], cK0, [59]].flatten.length ≤ limit) : Call C2 73 [.agg [.int .i64 d], .agg (kid5 k t p e kv)] ⟨2, [oa, ob]⟩ = some (.str [[97, 115, 115, 101, 114, 116, 32], cK0, [59]].flatten, ⟨2, [oa, ob]⟩) := by
  have hst := ndV_strip hkv
  have hu0 := ndV_under _ hkv
  have hp := put_call [[97, 115, 115, 101, 114, 116, 32], cK0, [59]] (le_limit (by simp)) hlen
  generalize [[97, 115, 115, 101, 114, 116, 32], cK0, [59]].flatten = R at hp ⊢
  simp only [List.map_cons, List.map_nil, List.length_cons, List.length_nil, Nat.reduceAdd, Nat.zero_add] at hp
  simp only [kid5] at hcK0
  rw [run_of (af := f73) rfl rfl, v_run rfl]
  simp [f73, kid5, hst, hu0, hcK0, hp, vv, Frame.put, keepF, Opd.ev, Opd.taken, aun, params, AVal.cells, AVal.known, entries, ASt.push, loadAt, mk, ASt.get, getL, results, result, ASt.trunc, underL, AVal.under, Own.under, storeAt, mayPutL, mayPut, splice, ASt.set, setL, fill, zeros, List.map_cons, List.map_nil, List.nil_append, List.append_nil, Option.map_some, Option.bind_some]
theorem u_82 (hkv : ndV kv = some ks) {cC : List UInt8} (hcC : Call C2 77 [.agg [.int .i64 d], .agg (kid5 k t p e kv)] ⟨0, []⟩ = some (.str cC, ⟨0, []⟩)) (hlen : [cC, [59]].flatten.length ≤ limit) : Call C2 82 [.agg [.int .i64 d], .agg (kid5 k t p e kv)] ⟨2, [oa, ob]⟩ = some (.str [cC, [59]].flatten, ⟨2, [oa, ob]⟩) := by
  have hst := ndV_strip hkv
  have hu0 := ndV_under _ hkv
  have hp := put_call [cC, [59]] (le_limit (by simp)) hlen
  generalize [cC, [59]].flatten = R at hp ⊢
  simp only [List.map_cons, List.map_nil, List.length_cons, List.length_nil, Nat.reduceAdd, Nat.zero_add] at hp
  simp only [kid5] at hcC
  rw [run_of (af := f82) rfl rfl, v_run rfl]
  simp [f82, kid5, hst, hu0, hcC, hp, vv, Frame.put, keepF, Opd.ev, Opd.taken, aun, params, AVal.cells, AVal.known, entries, ASt.push, loadAt, mk, ASt.get, getL, results, result, ASt.trunc, underL, AVal.under, Own.under, storeAt, mayPutL, mayPut, splice, ASt.set, setL, fill, zeros, List.map_cons, List.map_nil, List.nil_append, List.append_nil, Option.map_some, Option.bind_some]
theorem u_84 (hkv : ndV kv = some ks) {cK0 cK1 : List UInt8} (hcK0 : Call C2 85 [.agg [.int .i64 d], .agg (kid5 k t p e kv), .int .i64 0] ⟨0, []⟩ = some (.str cK0, ⟨0, []⟩)) (hcK1 : Call C2 85 [.agg [.int .i64 d], .agg (kid5 k t p e kv), .int .i64 1] ⟨0, []⟩ = some (.str cK1, ⟨0, []⟩)) (hlen : [cK0, [91], cK1, [93]].flatten.length ≤ limit) : Call C2 84 [.agg [.int .i64 d], .agg (kid5 k t p e kv)] ⟨2, [oa, ob]⟩ = some (.str [cK0, [91], cK1, [93]].flatten, ⟨2, [oa, ob]⟩) := by
  have hst := ndV_strip hkv
  have hu0 := ndV_under _ hkv
  have hp := put_call [cK0, [91], cK1, [93]] (le_limit (by simp)) hlen
  generalize [cK0, [91], cK1, [93]].flatten = R at hp ⊢
  simp only [List.map_cons, List.map_nil, List.length_cons, List.length_nil, Nat.reduceAdd, Nat.zero_add] at hp
  simp only [kid5] at hcK0 hcK1
  rw [run_of (af := f84) rfl rfl, v_run rfl]
  simp [f84, kid5, hst, hu0, hcK0, hcK1, hp, vv, Frame.put, keepF, Opd.ev, Opd.taken, aun, params, AVal.cells, AVal.known, entries, ASt.push, loadAt, mk, ASt.get, getL, results, result, ASt.trunc, underL, AVal.under, Own.under, storeAt, mayPutL, mayPut, splice, ASt.set, setL, fill, zeros, List.map_cons, List.map_nil, List.nil_append, List.append_nil, Option.map_some, Option.bind_some]
theorem u_89 (hkv : ndV kv = some ks) {cK0 : List UInt8} (hcK0 : Call C2 85 [.agg [.int .i64 d], .agg (kid5 k t p e kv), .int .i64 0] ⟨0, []⟩ = some (.str cK0, ⟨0, []⟩)) (hlen : [cK0, [46], t].flatten.length ≤ limit) : Call C2 89 [.agg [.int .i64 d], .agg (kid5 k t p e kv)] ⟨2, [oa, ob]⟩ = some (.str [cK0, [46], t].flatten, ⟨2, [oa, ob]⟩) := by
  have hst := ndV_strip hkv
  have hu0 := ndV_under _ hkv
  have hp := put_call [cK0, [46], t] (le_limit (by simp)) hlen
  generalize [cK0, [46], t].flatten = R at hp ⊢
  simp only [List.map_cons, List.map_nil, List.length_cons, List.length_nil, Nat.reduceAdd, Nat.zero_add] at hp
  simp only [kid5] at hcK0
  rw [run_of (af := f89) rfl rfl, v_run rfl]
  simp [f89, kid5, hst, hu0, hcK0, hp, vv, Frame.put, keepF, Opd.ev, Opd.taken, aun, params, AVal.cells, AVal.known, entries, ASt.push, loadAt, mk, ASt.get, getL, results, result, ASt.trunc, underL, AVal.under, Own.under, storeAt, mayPutL, mayPut, splice, ASt.set, setL, fill, zeros, List.map_cons, List.map_nil, List.nil_append, List.append_nil, Option.map_some, Option.bind_some]
theorem u_86 (hkv : ndV kv = some ks) {cK0 : List UInt8} (hcK0 : Call C2 85 [.agg [.int .i64 d], .agg (kid5 k t p e kv), .int .i64 0] ⟨0, []⟩ = some (.str cK0, ⟨0, []⟩)) (hlen : [[108, 101, 110, 40], cK0, [41]].flatten.length ≤ limit) : Call C2 86 [.agg [.int .i64 d], .agg (kid5 k t p e kv)] ⟨2, [oa, ob]⟩ = some (.str [[108, 101, 110, 40], cK0, [41]].flatten, ⟨2, [oa, ob]⟩) := by
  have hst := ndV_strip hkv
  have hu0 := ndV_under _ hkv
  have hp := put_call [[108, 101, 110, 40], cK0, [41]] (le_limit (by simp)) hlen
  generalize [[108, 101, 110, 40], cK0, [41]].flatten = R at hp ⊢
  simp only [List.map_cons, List.map_nil, List.length_cons, List.length_nil, Nat.reduceAdd, Nat.zero_add] at hp
  simp only [kid5] at hcK0
  rw [run_of (af := f86) rfl rfl, v_run rfl]
  simp [f86, kid5, hst, hu0, hcK0, hp, vv, Frame.put, keepF, Opd.ev, Opd.taken, aun, params, AVal.cells, AVal.known, entries, ASt.push, loadAt, mk, ASt.get, getL, results, result, ASt.trunc, underL, AVal.under, Own.under, storeAt, mayPutL, mayPut, splice, ASt.set, setL, fill, zeros, List.map_cons, List.map_nil, List.nil_append, List.append_nil, Option.map_some, Option.bind_some]
theorem u_87 (hkv : ndV kv = some ks) {cA : List UInt8} (hcA : Call C2 71 [.agg [.int .i64 d], .agg (kid5 k t p e kv)] ⟨0, []⟩ = some (.str cA, ⟨0, []⟩)) (hlen : [[91], cA, [93]].flatten.length ≤ limit) : Call C2 87 [.agg [.int .i64 d], .agg (kid5 k t p e kv)] ⟨2, [oa, ob]⟩ = some (.str [[91], cA, [93]].flatten, ⟨2, [oa, ob]⟩) := by
  have hst := ndV_strip hkv
  have hu0 := ndV_under _ hkv
  have hp := put_call [[91], cA, [93]] (le_limit (by simp)) hlen
  generalize [[91], cA, [93]].flatten = R at hp ⊢
  simp only [List.map_cons, List.map_nil, List.length_cons, List.length_nil, Nat.reduceAdd, Nat.zero_add] at hp
  simp only [kid5] at hcA
  rw [run_of (af := f87) rfl rfl, v_run rfl]
  simp [f87, kid5, hst, hu0, hcA, hp, vv, Frame.put, keepF, Opd.ev, Opd.taken, aun, params, AVal.cells, AVal.known, entries, ASt.push, loadAt, mk, ASt.get, getL, results, result, ASt.trunc, underL, AVal.under, Own.under, storeAt, mayPutL, mayPut, splice, ASt.set, setL, fill, zeros, List.map_cons, List.map_nil, List.nil_append, List.append_nil, Option.map_some, Option.bind_some]
theorem u_77 (hkv : ndV kv = some ks) {cA : List UInt8} (hcA : Call C2 71 [.agg [.int .i64 d], .agg (kid5 k t p e kv)] ⟨0, []⟩ = some (.str cA, ⟨0, []⟩)) (hlen : [t, [40], cA, [41]].flatten.length ≤ limit) : Call C2 77 [.agg [.int .i64 d], .agg (kid5 k t p e kv)] ⟨2, [oa, ob]⟩ = some (.str [t, [40], cA, [41]].flatten, ⟨2, [oa, ob]⟩) := by
  have hst := ndV_strip hkv
  have hu0 := ndV_under _ hkv
  have hp := put_call [t, [40], cA, [41]] (le_limit (by simp)) hlen
  generalize [t, [40], cA, [41]].flatten = R at hp ⊢
  simp only [List.map_cons, List.map_nil, List.length_cons, List.length_nil, Nat.reduceAdd, Nat.zero_add] at hp
  simp only [kid5] at hcA
  rw [run_of (af := f77) rfl rfl, v_run rfl]
  simp [f77, kid5, hst, hu0, hcA, hp, vv, Frame.put, keepF, Opd.ev, Opd.taken, aun, params, AVal.cells, AVal.known, entries, ASt.push, loadAt, mk, ASt.get, getL, results, result, ASt.trunc, underL, AVal.under, Own.under, storeAt, mayPutL, mayPut, splice, ASt.set, setL, fill, zeros, List.map_cons, List.map_nil, List.nil_append, List.append_nil, Option.map_some, Option.bind_some]
theorem u_75 (hkv : ndV kv = some ks) {cK0 cK1 : List UInt8} (hcK0 : Call C2 85 [.agg [.int .i64 d], .agg (kid5 k t p e kv), .int .i64 0] ⟨0, []⟩ = some (.str cK0, ⟨0, []⟩)) (hcK1 : Call C2 85 [.agg [.int .i64 d], .agg (kid5 k t p e kv), .int .i64 1] ⟨0, []⟩ = some (.str cK1, ⟨0, []⟩)) (hlen : [cK0, [32], t, [32], cK1].flatten.length ≤ limit) : Call C2 75 [.agg [.int .i64 d], .agg (kid5 k t p e kv)] ⟨2, [oa, ob]⟩ = some (.str [cK0, [32], t, [32], cK1].flatten, ⟨2, [oa, ob]⟩) := by
  have hst := ndV_strip hkv
  have hu0 := ndV_under _ hkv
  have hp := put_call [cK0, [32], t, [32], cK1] (le_limit (by simp)) hlen
  generalize [cK0, [32], t, [32], cK1].flatten = R at hp ⊢
  simp only [List.map_cons, List.map_nil, List.length_cons, List.length_nil, Nat.reduceAdd, Nat.zero_add] at hp
  simp only [kid5] at hcK0 hcK1
  rw [run_of (af := f75) rfl rfl, v_run rfl]
  simp [f75, kid5, hst, hu0, hcK0, hcK1, hp, vv, Frame.put, keepF, Opd.ev, Opd.taken, aun, params, AVal.cells, AVal.known, entries, ASt.push, loadAt, mk, ASt.get, getL, results, result, ASt.trunc, underL, AVal.under, Own.under, storeAt, mayPutL, mayPut, splice, ASt.set, setL, fill, zeros, List.map_cons, List.map_nil, List.nil_append, List.append_nil, Option.map_some, Option.bind_some]
end
end Go.Proofs.YtdhgdpokdhjanaaGreat.Abs
