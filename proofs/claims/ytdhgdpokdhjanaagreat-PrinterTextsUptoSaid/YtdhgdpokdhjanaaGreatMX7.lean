/- The nodes of a tree, as the reference lists them; a tree is small or not. -/
import Derived.Test.YtdhgdpokdhjanaaGreatX8
set_option linter.unusedSimpArgs false
set_option linter.unusedVariables false
namespace Go.Proofs.YtdhgdpokdhjanaaGreat.Abs
open Go

/-- The cells of nodes, one behind the other. -/
def flat (y : List (List AVal)) : List AVal := y.flatMap id

def nLoop : ACode := match f166.code with
  | .seq _ (.seq _ (.seq (.seq _ (.block _ (.loop b _))) _)) => b
  | _ => .bad

theorem pre_five : ∀ {N : Nat}, (∀ {kv : AVal} {y : List (List AVal)}, preV kv = some y → y.length ≤ N → (∀ x ∈ y, x.length = 5 ∧ x.all AVal.one = true) ∧ kv.under 0 = true) ∧
    ∀ {cs : List AVal} {y : List (List AVal)}, preL cs = some y → y.length ≤ N → (∀ x ∈ y, x.length = 5 ∧ x.all AVal.one = true) ∧ underL 0 cs = true := by
  intro N
  induction N with
  | zero =>
    have h0 : ∀ {cs : List AVal} {y : List (List AVal)}, preL cs = some y → y.length ≤ 0 → (∀ x ∈ y, x.length = 5 ∧ x.all AVal.one = true) ∧ underL 0 cs = true := by
      intro cs y h hy
      rcases preL_cons h with ⟨rfl, rfl⟩ | ⟨k, t, p, e, kv, r, y1, z, _, h1, h2, rfl⟩
      · exact ⟨fun x hx => (by cases hx), rfl⟩
      · simp at hy
    refine ⟨fun {kv y} h hy => ?_, h0⟩
    rcases preV_cases h with ⟨rfl, rfl⟩ | ⟨cs, n, o, rfl, ho, _, _, h5⟩
    · exact ⟨fun x hx => (by cases hx), rfl⟩
    · obtain ⟨q1, q2⟩ := h0 h5 hy
      exact ⟨q1, by rcases ho with rfl | rfl <;> simp [AVal.under, Own.under, q2]⟩
  | succ N ih =>
    have hL : ∀ {cs : List AVal} {y : List (List AVal)}, preL cs = some y → y.length ≤ N + 1 → (∀ x ∈ y, x.length = 5 ∧ x.all AVal.one = true) ∧ underL 0 cs = true := by
      intro cs y h hy
      rcases preL_cons h with ⟨rfl, rfl⟩ | ⟨k, t, p, e, kv, r, y1, z, rfl, h1, h2, rfl⟩
      · exact ⟨fun x hx => (by cases hx), rfl⟩
      · simp only [List.length_cons, List.length_append] at hy
        obtain ⟨a1, a2⟩ := ih.1 h1 (by omega)
        obtain ⟨b1, b2⟩ := ih.2 h2 (by omega)
        refine ⟨fun x hx => ?_, by simp [underL, AVal.under, a2, b2]⟩
        rcases List.mem_cons.1 hx with rfl | hx
        · refine ⟨rfl, ?_⟩
          have : kv.one = true := by rcases preV_cases h1 with ⟨rfl, _⟩ | ⟨_, _, _, rfl, _⟩ <;> rfl
          simp [one_int, one_str, this]
        · rcases List.mem_append.1 hx with hx | hx
          · exact a1 x hx
          · exact b1 x hx
    refine ⟨fun {kv y} h hy => ?_, hL⟩
    rcases preV_cases h with ⟨rfl, rfl⟩ | ⟨cs, n, o, rfl, ho, _, _, h5⟩
    · exact ⟨fun x hx => (by cases hx), rfl⟩
    · obtain ⟨q1, q2⟩ := hL h5 hy
      exact ⟨q1, by rcases ho with rfl | rfl <;> simp [AVal.under, Own.under, q2]⟩

theorem preV_under {kv : AVal} {y : List (List AVal)} (h : preV kv = some y) : kv.under 0 = true := (pre_five.1 h (Nat.le_refl _)).2
theorem preV_strip {kv : AVal} {y : List (List AVal)} (h : preV kv = some y) : kv.strip = kv := by
  rcases preV_cases h with ⟨rfl, _⟩ | ⟨_, _, _, rfl, rfl | rfl, _⟩ <;> rfl

theorem flat_length {y : List (List AVal)} (h : ∀ x ∈ y, x.length = 5 ∧ x.all AVal.one = true) : (flat y).length = 5 * y.length ∧ (flat y).all AVal.one = true := by
  induction y with
  | nil => exact ⟨rfl, rfl⟩
  | cons x y ih =>
    obtain ⟨h1, h2⟩ := ih (fun z hz => h z (by simp [hz]))
    obtain ⟨h3, h4⟩ := h x (by simp)
    unfold flat at h1 h2 ⊢
    refine ⟨?_, ?_⟩
    · simp only [List.flatMap_cons, id, List.length_append, List.length_cons, h1, h3]
      omega
    · simp only [List.flatMap_cons, id, List.all_append, h2, h4, Bool.and_self]


def NodesGo (N : Nat) : Prop := ∀ k t p e kv y, preV kv = some y → y.length ≤ N → y.length + 1 ≤ limit → ∃ o, (o = .exact ∨ o = .mine 5) ∧ Call C2 166 [.agg (kid5 k t p e kv)] ⟨0, []⟩ = some (.sl (flat (kid5 k t p e kv :: y)) (y.length + 1) o, ⟨0, []⟩)

theorem nodes_step {N : Nat} (hN : NodesGo N) {cs : List AVal} {n : Nat} {o : Own} (ho : o = .none ∨ o = .exact) (hcs : cs.length = 5 * n) (hn : n ≤ limit) (k : Int) (t : List UInt8) (p e : Int) :
    ∀ (z : List (List AVal)) (rem : List AVal) (i : Nat), preL rem = some z → z.length ≤ N + 1 → rem = cs.drop (5 * i) → i ≤ n → ∀ (acc : List AVal) (c : Nat) (oa : Own), (oa = .exact ∨ oa = .mine 5) → acc.length = c * 5 → c + z.length ≤ limit →
      ∃ oa', (oa' = .exact ∨ oa' = .mine 5) ∧ Loop C2 nLoop [1, 3, 4] [(1, .ref 0 0), (3, .sl acc c oa), (4, .int .i64 i)] ⟨1, [.cells (kid5 k t p e (.sl cs n o))]⟩ =
        some (.exit 0, [(1, .ref 0 0), (3, .sl (acc ++ flat z) (c + z.length) oa'), (4, .int .i64 n), (11, .bool false)], ⟨1, [.cells (kid5 k t p e (.sl cs n o))]⟩) := by
  intro z
  generalize hz : z.length = m
  induction m using Nat.strongRecOn generalizing z with
  | _ m ih =>
  subst hz
  intro rem i hrem hzN hdrop hi acc c oa hoa hacc hlim
  rcases preL_cons hrem with ⟨rfl, rfl⟩ | ⟨k1, t1, p1, e1, kv1, r, y1, z1, rfl, hy1, hz1, rfl⟩
  · have hin : i = n := by
      have := congrArg List.length hdrop
      simp only [List.length_nil, List.length_drop] at this
      omega
    subst hin
    refine ⟨oa, hoa, ?_⟩
    rw [Loop_eq]
    rcases ho with rfl | rfl <;> rcases hoa with rfl | rfl <;> simp [stepLoop, nLoop, f166, flat, ss, runBody, exec, exOps, exDraw, exTrace, wanted, aop, Opd.ev, Opd.taken, Frame.get, abin, aun, cmpInt, eqOp, Frame.putO, Frame.put, Frame.keep, params, kid5, AVal.known, AVal.cells, ASt.push, loadAt, cut, mk, ASt.get, getL, results, result, ASt.trunc, underL, AVal.under]
  · have hlen : 5 * i + 5 ≤ cs.length := by
      have := congrArg List.length hdrop
      simp only [List.length_cons, List.length_drop] at this
      omega
    have hin : i < n := by omega
    have hcut : cut cs (i * 5) 5 = some (kid5 k1 t1 p1 e1 kv1) := by
      unfold cut
      rw [if_pos (by omega), Nat.mul_comm i 5, ← hdrop]
      rfl
    have hr : r = cs.drop (5 * (i + 1)) := by
      rw [show 5 * (i + 1) = 5 * i + 5 from by omega, ← List.drop_drop, ← hdrop]
      rfl
    simp only [List.length_cons, List.length_append] at hzN hlim
    obtain ⟨o1, ho1, hcall⟩ := hN k1 t1 p1 e1 kv1 y1 hy1 (by omega) (by omega)
    have hu1 := preV_under hy1
    have hw : IntKind.wrap .i64 ((i : Int) + 1) = ((i + 1 : Nat) : Int) := by
      rw [wrap_i64 (by omega) (by unfold limit at hn; omega)]; rfl
    obtain ⟨hf1, hf2⟩ := flat_length (y := kid5 k1 t1 p1 e1 kv1 :: y1) (by
      intro x hx
      rcases List.mem_cons.1 hx with rfl | hx
      · refine ⟨rfl, ?_⟩
        have : kv1.one = true := by rcases preV_cases hy1 with ⟨rfl, _⟩ | ⟨_, _, _, rfl, _⟩ <;> rfl
        simp [kid5, one_int, one_str, this]
      · exact (pre_five.1 hy1 (Nat.le_refl _)).1 x hx)
    generalize hF : flat (kid5 k1 t1 p1 e1 kv1 :: y1) = F at hcall hf1 hf2
    have hflat : flat ([.int .i64 k1, .str t1, .int .i64 p1, .int .i64 e1, kv1] :: (y1 ++ z1)) = F ++ flat z1 := by
      rw [← hF]
      simp [flat, kid5]
    obtain ⟨oa', hoa', ih⟩ := ih z1.length (by simp only [List.length_cons, List.length_append]; omega) z1 rfl r (i + 1) hz1 (by omega) hr (by omega) (acc ++ F) (c + (y1.length + 1)) (.mine 5) (.inr rfl) (by
      rw [List.length_append, hacc, hf1, List.length_cons]; omega) (by omega)
    refine ⟨oa', hoa', ?_⟩
    rw [hflat, ← List.append_assoc, show c + ([.int .i64 k1, .str t1, .int .i64 p1, .int .i64 e1, kv1] :: (y1 ++ z1) : List (List AVal)).length = c + (y1.length + 1) + z1.length from by simp only [List.length_cons, List.length_append]; omega, ← ih]
    clear ih
    have hq1 : c + (y1.length + 1) ≤ limit := by omega
    have hq2 : F.length = (y1.length + 1) * 5 := by rw [hf1, List.length_cons]; omega
    have happ : ∀ (A : Frame) (s : ASt), (c + (y1.length + 1) ≤ limit ∧ acc.length = c * 5 ∧ F.length = (y1.length + 1) * 5 ∧ F.all AVal.one = true) := fun _ _ => ⟨hq1, hacc, hq2, hf2⟩
    have hf3 : (∀ x, x ∈ F → x.one = true) ↔ True := ⟨fun _ => trivial, fun _ x hx => List.all_eq_true.1 hf2 x hx⟩
    conv => lhs; rw [Loop_eq]
    simp only [kid5] at hcut hcall
    rcases ho with rfl | rfl <;> rcases hoa with rfl | rfl <;> rcases ho1 with rfl | rfl <;>
      simp (maxSteps := 2000000) [stepLoop, nLoop, f166, hin, hcut, hcall, hu1, hw, aappend, newCells, base, hq1, hq2, hacc, hf3, ss, runBody, exec, exOps, exDraw, exTrace, wanted, aop, Opd.ev, Opd.taken, Frame.get, abin, aun, cmpInt, eqOp, Frame.putO, Frame.put, Frame.keep, params, kid5, AVal.known, AVal.cells, ASt.push, loadAt, mk, ASt.get, getL, results, result, ASt.trunc, underL, AVal.under]

theorem pre_form : ∀ {N : Nat}, (∀ {kv : AVal} {y : List (List AVal)}, preV kv = some y → y.length ≤ N → ∀ x ∈ y, ∃ k t p e kv, x = kid5 k t p e kv ∧ kv.under 0 = true) ∧
    ∀ {cs : List AVal} {y : List (List AVal)}, preL cs = some y → y.length ≤ N → ∀ x ∈ y, ∃ k t p e kv, x = kid5 k t p e kv ∧ kv.under 0 = true := by
  intro N
  induction N with
  | zero =>
    refine ⟨fun {kv y} _ hy x hx => ?_, fun {cs y} _ hy x hx => ?_⟩
    · have : y = [] := List.length_eq_zero_iff.1 (by omega)
      subst this; cases hx
    · have : y = [] := List.length_eq_zero_iff.1 (by omega)
      subst this; cases hx
  | succ N ih =>
    have hL : ∀ {cs : List AVal} {y : List (List AVal)}, preL cs = some y → y.length ≤ N + 1 → ∀ x ∈ y, ∃ k t p e kv, x = kid5 k t p e kv ∧ kv.under 0 = true := by
      intro cs y h hy x hx
      rcases preL_cons h with ⟨rfl, rfl⟩ | ⟨k, t, p, e, kv, r, y1, z, rfl, h1, h2, rfl⟩
      · cases hx
      · simp only [List.length_cons, List.length_append] at hy
        rcases List.mem_cons.1 hx with rfl | hx
        · exact ⟨k, t, p, e, kv, rfl, preV_under h1⟩
        · rcases List.mem_append.1 hx with hx | hx
          · exact ih.1 h1 (by omega) x hx
          · exact ih.2 h2 (by omega) x hx
    refine ⟨fun {kv y} h hy x hx => ?_, hL⟩
    rcases preV_cases h with ⟨rfl, rfl⟩ | ⟨cs, n, o, rfl, ho, _, _, h5⟩
    · cases hx
    · exact hL h5 hy x hx

theorem underL_append {n : Nat} {a b : List AVal} (ha : underL n a = true) (hb : underL n b = true) : underL n (a ++ b) = true :=
  underL_all.2 (fun x hx => (List.mem_append.1 hx).elim (fun h => underL_all.1 ha x h) (fun h => underL_all.1 hb x h))

theorem flat_under : ∀ {y : List (List AVal)}, (∀ x ∈ y, ∃ k t p e kv, x = kid5 k t p e kv ∧ kv.under 0 = true) → underL 0 (flat y) = true
  | [], _ => rfl
  | x :: y, h => by
    obtain ⟨k, t, p, e, kv, rfl, hu⟩ := h x (by simp)
    have ih := flat_under (y := y) (fun z hz => h z (by simp [hz]))
    unfold flat at ih ⊢
    simp only [List.flatMap_cons, id]
    exact underL_append (by simp [kid5, underL, AVal.under, hu]) ih

theorem node_form {kv : AVal} {y : List (List AVal)} (h : preV kv = some y) (k : Int) (t : List UInt8) (p e : Int) : ∀ x ∈ kid5 k t p e kv :: y, ∃ k t p e kv, x = kid5 k t p e kv ∧ kv.under 0 = true := by
  intro x hx
  rcases List.mem_cons.1 hx with rfl | hx
  · exact ⟨k, t, p, e, kv, rfl, preV_under h⟩
  · exact pre_form.1 h (Nat.le_refl _) x hx

theorem nodes_go : ∀ N, NodesGo N := by
  have hnil : ∀ (k : Int) (t : List UInt8) (p e : Int), Call C2 166 [.agg (kid5 k t p e .nils)] ⟨0, []⟩ = some (.sl (kid5 k t p e .nils) 1 .exact, ⟨0, []⟩) := by
    intro k t p e
    rw [run_of (af := f166) rfl rfl]
    have hL : Loop C2 nLoop [1, 3, 4] [(1, .ref 0 0), (3, .sl (kid5 k t p e .nils) 1 .exact), (4, .int .i64 0)] ⟨1, [.cells (kid5 k t p e .nils)]⟩ =
        some (.exit 0, [(1, .ref 0 0), (3, .sl (kid5 k t p e .nils) 1 .exact), (4, .int .i64 0), (11, .bool false)], ⟨1, [.cells (kid5 k t p e .nils)]⟩) := by
      rw [Loop_eq]
      simp [stepLoop, nLoop, f166, ss, runBody, exec, exOps, exDraw, exTrace, wanted, aop, Opd.ev, Opd.taken, Frame.get, abin, aun, cmpInt, eqOp, Frame.putO, Frame.put, Frame.keep, params, kid5, AVal.known, AVal.cells, ASt.push, loadAt, cut, mk, ASt.get, getL, results, result, ASt.trunc, underL, AVal.under]
    have hz : ∀ s, fz 0 s depth (.sl (kid5 k t p e .nils) 1 .exact) = some (.sl (kid5 k t p e .nils) 1 .exact) := fun s => fz_under rfl
    simp only [kid5] at hz
    simp [nLoop, f166, kid5] at hL
    simp [f166, hL, hz, fill, zeros, splice, ss, runBody, exec, exOps, exDraw, exTrace, wanted, aop, Opd.ev, Opd.taken, Frame.get, abin, aun, cmpInt, eqOp, Frame.putO, Frame.put, Frame.keep, params, kid5, AVal.known, AVal.cells, ASt.push, loadAt, cut, mk, ASt.get, getL, results, result, ASt.trunc, underL, AVal.under]
  have hstep : ∀ N, (N = 0 ∨ ∃ M, N = M + 1 ∧ NodesGo M) → NodesGo N := by
    intro N hN k t p e kv y hkv hy hlim
    rcases preV_cases hkv with ⟨rfl, rfl⟩ | ⟨cs, n, o, rfl, ho, hcs, hn, hpre⟩
    · exact ⟨.exact, .inl rfl, by rw [hnil]; simp [flat, kid5]⟩
    · have hstep : ∃ oa', (oa' = .exact ∨ oa' = .mine 5) ∧ Loop C2 nLoop [1, 3, 4] [(1, .ref 0 0), (3, .sl (kid5 k t p e (.sl cs n o)) 1 .exact), (4, .int .i64 (0 : Nat))] ⟨1, [.cells (kid5 k t p e (.sl cs n o))]⟩ =
          some (.exit 0, [(1, .ref 0 0), (3, .sl (kid5 k t p e (.sl cs n o) ++ flat y) (1 + y.length) oa'), (4, .int .i64 n), (11, .bool false)], ⟨1, [.cells (kid5 k t p e (.sl cs n o))]⟩) := by
        rcases hN with rfl | ⟨M, rfl, hM⟩
        · have hM : NodesGo 0 ∨ y = [] := .inr (List.length_eq_zero_iff.1 (by omega))
          rcases hM with hM | rfl
          · exact nodes_step hM ho hcs hn k t p e y cs 0 hpre (by omega) (by simp) (Nat.zero_le _) (kid5 k t p e (.sl cs n o)) 1 .exact (.inl rfl) rfl (by omega)
          · rcases preL_cons hpre with ⟨rfl, _⟩ | ⟨_, _, _, _, _, _, _, _, _, _, _, h⟩
            · have : n = 0 := by simp at hcs; omega
              subst this
              refine ⟨.exact, .inl rfl, ?_⟩
              rw [Loop_eq]
              rcases ho with rfl | rfl <;> simp [stepLoop, nLoop, f166, flat, ss, runBody, exec, exOps, exDraw, exTrace, wanted, aop, Opd.ev, Opd.taken, Frame.get, abin, aun, cmpInt, eqOp, Frame.putO, Frame.put, Frame.keep, params, kid5, AVal.known, AVal.cells, ASt.push, loadAt, cut, mk, ASt.get, getL, results, result, ASt.trunc, underL, AVal.under]
            · cases h
        · exact nodes_step hM ho hcs hn k t p e y cs 0 hpre hy (by simp) (Nat.zero_le _) (kid5 k t p e (.sl cs n o)) 1 .exact (.inl rfl) rfl (by omega)
      obtain ⟨oa, hoa, hL⟩ := hstep
      refine ⟨oa, hoa, ?_⟩
      rw [run_of (af := f166) rfl rfl]
      have hz : ∀ s, fz 0 s depth (.sl (flat (kid5 k t p e (.sl cs n o) :: y)) (y.length + 1) oa) = some (.sl (flat (kid5 k t p e (.sl cs n o) :: y)) (y.length + 1) oa) := fun s => fz_under (by
        simp only [AVal.under, flat_under (node_form hkv k t p e), Bool.true_and]
        rcases hoa with rfl | rfl <;> rfl)
      simp [flat, kid5] at hz
      simp [nLoop, f166, kid5, Nat.add_comm 1] at hL
      rcases hoa with rfl | rfl <;> rcases ho with rfl | rfl <;> simp [f166, hL, hz, fill, zeros, splice, flat, ss, runBody, exec, exOps, exDraw, exTrace, wanted, aop, Opd.ev, Opd.taken, Frame.get, abin, aun, cmpInt, eqOp, Frame.putO, Frame.put, Frame.keep, params, kid5, AVal.known, AVal.cells, ASt.push, loadAt, cut, mk, ASt.get, getL, results, result, ASt.trunc, underL, AVal.under]
  intro N
  induction N with
  | zero => exact hstep 0 (.inl rfl)
  | succ N ih => exact hstep (N + 1) (.inr ⟨N, rfl, ih⟩)

end Go.Proofs.YtdhgdpokdhjanaaGreat.Abs
/- The reference's levels. -/
namespace Go.Proofs.YtdhgdpokdhjanaaGreat.Abs
open Go

theorem paren_call (k : Int) (t : List UInt8) (p e : Int) (kv : AVal) (hst : kv.strip = kv) (hu : kv.under 0 = true) (i : Int) (k2 : Int) (t2 : List UInt8) (p2 e2 : Int) (kv2 : AVal) (hst2 : kv2.strip = kv2) (hu2 : kv2.under 0 = true) (m : Int)
    (hm : Call C2 345 [.agg (kid5 k t p e kv), .int .i64 i] ⟨0, []⟩ = some (.int .i64 m, ⟨0, []⟩)) :
    Call C2 341 [.agg (kid5 k t p e kv), .int .i64 i, .agg (kid5 k2 t2 p2 e2 kv2)] ⟨0, []⟩ = some (.bool (decide (20 ≤ k2 ∧ k2 ≤ 29 ∧ lev k2 t2 < m)), ⟨0, []⟩) := by
  rw [run_of (af := f341) rfl rfl]
  have hc := level_call k2 t2 p2 e2 kv2
  simp only [kid5] at hc hm
  generalize lev k2 t2 = l at hc
  by_cases h1 : k2 < 20
  · have : ¬ (20 ≤ k2) := by omega
    simp [f341, hc, hm, hst, hu, hst2, hu2, h1, this, ss, runBody, exec, exOps, exDraw, exTrace, wanted, aop, Opd.ev, Opd.taken, Frame.get, abin, aun, cmpInt, eqOp, Frame.putO, Frame.put, Frame.keep, params, kid5, AVal.known, AVal.cells, ASt.push, loadAt, cut, mk, ASt.get, getL, results, result, ASt.trunc, underL, AVal.under]
  by_cases h2 : 29 < k2
  · have : ¬ (k2 ≤ 29) := by omega
    simp [f341, hc, hm, hst, hu, hst2, hu2, h1, h2, this, ss, runBody, exec, exOps, exDraw, exTrace, wanted, aop, Opd.ev, Opd.taken, Frame.get, abin, aun, cmpInt, eqOp, Frame.putO, Frame.put, Frame.keep, params, kid5, AVal.known, AVal.cells, ASt.push, loadAt, cut, mk, ASt.get, getL, results, result, ASt.trunc, underL, AVal.under]
  · have h3 : 20 ≤ k2 := by omega
    have h4 : k2 ≤ 29 := by omega
    simp [f341, hc, hm, hst, hu, hst2, hu2, h1, h2, h3, h4, ss, runBody, exec, exOps, exDraw, exTrace, wanted, aop, Opd.ev, Opd.taken, Frame.get, abin, aun, cmpInt, eqOp, Frame.putO, Frame.put, Frame.keep, params, kid5, AVal.known, AVal.cells, ASt.push, loadAt, cut, mk, ASt.get, getL, results, result, ASt.trunc, underL, AVal.under]

theorem isExpr_call (k : Int) : Call C2 163 [.int .i64 k] ⟨0, []⟩ = some (.bool (decide (20 ≤ k ∧ k ≤ 29)), ⟨0, []⟩) := by
  rw [run_of (af := f163) rfl rfl]
  by_cases h1 : 20 ≤ k
  · by_cases h2 : k ≤ 29
    · simp [f163, h1, h2, ss, runBody, exec, exOps, exDraw, exTrace, wanted, aop, Opd.ev, Opd.taken, Frame.get, abin, aun, cmpInt, eqOp, Frame.putO, Frame.put, Frame.keep, params, kid5, AVal.known, AVal.cells, ASt.push, loadAt, cut, mk, ASt.get, getL, results, result, ASt.trunc, underL, AVal.under]
    · simp [f163, h1, h2, ss, runBody, exec, exOps, exDraw, exTrace, wanted, aop, Opd.ev, Opd.taken, Frame.get, abin, aun, cmpInt, eqOp, Frame.putO, Frame.put, Frame.keep, params, kid5, AVal.known, AVal.cells, ASt.push, loadAt, cut, mk, ASt.get, getL, results, result, ASt.trunc, underL, AVal.under]
  · simp [f163, h1, ss, runBody, exec, exOps, exDraw, exTrace, wanted, aop, Opd.ev, Opd.taken, Frame.get, abin, aun, cmpInt, eqOp, Frame.putO, Frame.put, Frame.keep, params, kid5, AVal.known, AVal.cells, ASt.push, loadAt, cut, mk, ASt.get, getL, results, result, ASt.trunc, underL, AVal.under]

def hasLoop : ACode := match f142.code with
  | .seq _ (.seq (.seq _ (.block _ (.loop b _))) _) => b
  | _ => .bad

theorem cut_strs {l : List (List UInt8)} {i : Nat} {x : List UInt8} {r : List (List UInt8)} (h : l.drop i = x :: r) : cut (l.map AVal.str) i 1 = some [.str x] := by
  have hlen : i + 1 ≤ l.length := by
    have := congrArg List.length h
    simp only [List.length_drop, List.length_cons] at this
    omega
  unfold cut
  rw [if_pos (by simpa using hlen), ← List.map_drop, h]
  rfl

theorem has_loop (l : List (List UInt8)) (o : Own) (ho : o = .none ∨ o = .exact) (hl : l.length ≤ limit) (t : List UInt8) : ∀ (r : List (List UInt8)) (i : Nat), l.drop i = r → i ≤ l.length →
    Loop C2 hasLoop [0, 1, 5] [(0, .sl (l.map AVal.str) l.length o), (1, .str t), (5, .int .i64 i)] ⟨0, []⟩ =
      if r.contains t then some (.ret, [(4, .bool true)], ⟨0, []⟩) else some (.exit 0, [(0, .sl (l.map AVal.str) l.length o), (1, .str t), (5, .int .i64 l.length), (9, .bool false)], ⟨0, []⟩)
  | [], i, h, hi => by
    have : i = l.length := by
      have := congrArg List.length h
      simp only [List.length_drop, List.length_nil] at this
      omega
    subst this
    rw [Loop_eq]
    rcases ho with rfl | rfl <;> simp [stepLoop, hasLoop, f142, ss, runBody, exec, exOps, exDraw, exTrace, wanted, aop, Opd.ev, Opd.taken, Frame.get, abin, aun, cmpInt, eqOp, Frame.putO, Frame.put, Frame.keep, params, kid5, AVal.known, AVal.cells, ASt.push, loadAt, mk, ASt.get, getL, results, result, ASt.trunc, underL, AVal.under]
  | x :: r, i, h, hi => by
    have hlt : i < l.length := by
      have := congrArg List.length h
      simp only [List.length_drop, List.length_cons] at this
      omega
    have hcut := cut_strs h
    have hw : IntKind.wrap .i64 ((i : Int) + 1) = ((i + 1 : Nat) : Int) := by
      rw [wrap_i64 (by omega) (by unfold limit at hl; omega)]; rfl
    have ih := has_loop l o ho hl t r (i + 1) (by rw [← List.drop_drop, h]; rfl) (by omega)
    rw [Loop_eq]
    by_cases hx : x = t
    · subst hx
      rcases ho with rfl | rfl <;> simp [stepLoop, hasLoop, f142, hlt, hcut, ss, runBody, exec, exOps, exDraw, exTrace, wanted, aop, Opd.ev, Opd.taken, Frame.get, abin, aun, cmpInt, eqOp, Frame.putO, Frame.put, Frame.keep, params, kid5, AVal.known, AVal.cells, ASt.push, loadAt, mk, ASt.get, getL, results, result, ASt.trunc, underL, AVal.under]
    · have hx2 : ¬ t = x := fun e => hx e.symm
      rcases ho with rfl | rfl
      · simp [hasLoop, f142] at ih
        simp [stepLoop, hasLoop, f142, hlt, hcut, hx, hx2, hw, ih, ss, runBody, exec, exOps, exDraw, exTrace, wanted, aop, Opd.ev, Opd.taken, Frame.get, abin, aun, cmpInt, eqOp, Frame.putO, Frame.put, Frame.keep, params, kid5, AVal.known, AVal.cells, ASt.push, loadAt, mk, ASt.get, getL, results, result, ASt.trunc, underL, AVal.under]
      · simp [hasLoop, f142] at ih
        simp [stepLoop, hasLoop, f142, hlt, hcut, hx, hx2, hw, ih, ss, runBody, exec, exOps, exDraw, exTrace, wanted, aop, Opd.ev, Opd.taken, Frame.get, abin, aun, cmpInt, eqOp, Frame.putO, Frame.put, Frame.keep, params, kid5, AVal.known, AVal.cells, ASt.push, loadAt, mk, ASt.get, getL, results, result, ASt.trunc, underL, AVal.under]

theorem has_call (l : List (List UInt8)) (o : Own) (ho : o = .none ∨ o = .exact) (hl : l.length ≤ limit) (t : List UInt8) : Call C2 142 [.sl (l.map AVal.str) l.length o, .str t] ⟨0, []⟩ = some (.bool (l.contains t), ⟨0, []⟩) := by
  rw [run_of (af := f142) rfl rfl]
  have hL := has_loop l o ho hl t l 0 rfl (Nat.zero_le _)
  simp [hasLoop, f142] at hL
  by_cases h : l.contains t = true
  · have h2 : t ∈ l := by simpa using h
    rcases ho with rfl | rfl <;> simp [f142, hL, h2, ss, runBody, exec, exOps, exDraw, exTrace, wanted, aop, Opd.ev, Opd.taken, Frame.get, abin, aun, cmpInt, eqOp, Frame.putO, Frame.put, Frame.keep, params, kid5, AVal.known, AVal.cells, ASt.push, loadAt, mk, ASt.get, getL, results, result, ASt.trunc, underL, AVal.under]
  · have h2 : ¬ t ∈ l := by simpa using h
    rcases ho with rfl | rfl <;> simp [f142, hL, h2, ss, runBody, exec, exOps, exDraw, exTrace, wanted, aop, Opd.ev, Opd.taken, Frame.get, abin, aun, cmpInt, eqOp, Frame.putO, Frame.put, Frame.keep, params, kid5, AVal.known, AVal.cells, ASt.push, loadAt, mk, ASt.get, getL, results, result, ASt.trunc, underL, AVal.under]
theorem has_nils (t : List UInt8) : Call C2 142 [.nils, .str t] ⟨0, []⟩ = some (.bool false, ⟨0, []⟩) := by
  rw [run_of (af := f142) rfl rfl]
  have hL : Loop C2 hasLoop [0, 1, 5] [(0, .nils), (1, .str t), (5, .int .i64 0)] ⟨0, []⟩ = some (.exit 0, [(0, .nils), (1, .str t), (5, .int .i64 0), (9, .bool false)], ⟨0, []⟩) := by
    rw [Loop_eq]
    simp [stepLoop, hasLoop, f142, ss, runBody, exec, exOps, exDraw, exTrace, wanted, aop, Opd.ev, Opd.taken, Frame.get, abin, aun, cmpInt, eqOp, Frame.putO, Frame.put, Frame.keep, params, kid5, AVal.known, AVal.cells, ASt.push, loadAt, mk, ASt.get, getL, results, result, ASt.trunc, underL, AVal.under]
  simp [hasLoop, f142] at hL
  simp [f142, hL, ss, runBody, exec, exOps, exDraw, exTrace, wanted, aop, Opd.ev, Opd.taken, Frame.get, abin, aun, cmpInt, eqOp, Frame.putO, Frame.put, Frame.keep, params, kid5, AVal.known, AVal.cells, ASt.push, loadAt, mk, ASt.get, getL, results, result, ASt.trunc, underL, AVal.under]

end Go.Proofs.YtdhgdpokdhjanaaGreat.Abs
