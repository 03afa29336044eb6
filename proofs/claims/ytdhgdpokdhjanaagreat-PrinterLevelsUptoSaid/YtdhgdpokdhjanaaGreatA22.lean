/- Regions whose order is open: in whatever order. -/
import Derived.Test.YtdhgdpokdhjanaaGreatA21
set_option linter.unusedSimpArgs false
set_option linter.unusedVariables false
namespace Go.Proofs.YtdhgdpokdhjanaaGreat.Abs
open Go

section
variable {P : Program} {fm : Nat → Nat} {nt : Nat} {g g' g'' : Gh} {s s' s'' t : ASt} {A A' A'' B : Frame} {a a' a'' : Act} {w w' w'' : World} {call : CallFn}
variable {aos : List AOper} {ops : Array Oper} {T : Nat → Frame × ASt} {masks : List Nat} {pairs : List (Nat × Nat)}

theorem count_set (l : List Bool) (i : Nat) (h : l[i]? = some false) : (l.set i true).count false + 1 = l.count false := by
  induction l generalizing i with
  | nil => simp at h
  | cons b l ih =>
    cases i with
    | zero =>
      simp only [List.getElem?_cons_zero, Option.some.injEq] at h
      subst h
      simp
    | succ i =>
      have := ih i (by simpa using h)
      simp only [List.set_cons_succ, List.count_cons]
      omega

theorem Sim.drew (h : Sim fm s g w) (k : Nat) : Sim fm s g { w with drawn := k } :=
  ⟨h.size, h.objs, h.objn, h.st, h.mst, h.fresh⟩

theorem any_sound {r : Option Nat} {m : Nat} (hcall : CallSound P fm call) (hok : okOpers P fm nt ops aos ops.toList = true) (hT : ∀ i o, aos[i]? = some o → OperStep call o (T i).1 (T i).2 (T (i + 1)).1 (T (i + 1)).2)
    (hm : masksOk masks 0 ops.toList masks = true) (hp : pairsGood masks pairs aos = true)
    (hpairs : ∀ j l o, (j, l) ∈ pairs → aos[l]? = some o → wanted (T l).1 o.guard = some false ∨ ReadsEq o.op (T l).1 (T j).2 (T (j + 1)).2)
    {Q : Exit → Act → World → Prop} (hQ : ∀ a' w' g', RPost fm nt g w s (T aos.length).2 (T aos.length).1 a a' g' w' → Q .normal a' w') :
    ∀ (fuel : Nat) (listed : Array Bool) (B : Frame) (t : ASt) (g1 : Gh) (w1 : World) (a1 : Act), listed.size = ops.size → listed.toList.count false ≤ fuel → Mid aos ops.toList T (fun k => listed.getD k false = true) B t →
      RPost fm nt g w s t B a a1 g1 w1 → wpAnyIn (FW r) m P .any ops Q fuel listed a1 w1 := by
  obtain ⟨hlen, hget⟩ := okOpers_get hok
  have hlen' : aos.length = ops.size := by simpa using hlen
  -- when nothing is ready, all is done
  have done : ∀ (listed : Array Bool) (B : Frame) (t : ASt) (g1 : Gh) (w1 : World) (a1 : Act), listed.size = ops.size → Mid aos ops.toList T (fun k => listed.getD k false = true) B t →
      RPost fm nt g w s t B a a1 g1 w1 → (∀ k, k < ops.size → listed.getD k false = true) → Q .normal a1 w1 := by
    intro listed B t g1 w1 a1 hsz hM hR hall
    have hframe : ∀ d, B.get d = (T aos.length).1.get d := fun d => hM.frame d aos.length (Nat.le_refl _)
      (fun k x hk hx hd => hall k (by omega)) (fun k x hk hx hd => by have := (List.getElem?_eq_some_iff.1 hx).1; omega)
    obtain ⟨b, hb, hb1, hb2, hb3⟩ := hM.state
    have hst : (T aos.length).2 = t := by
      rw [hb3]
      refine calm_between hT hb (Nat.le_refl _) (fun k x h1 h2 hx => ?_)
      cases hxs : x.op.state
      · rfl
      · exact absurd (hall k (by omega)) (hb2 k x h1 hx hxs)
    refine hQ a1 w1 g1 ⟨by rw [hst]; exact hR.sim, hR.le, by rw [hst]; exact hR.n, hR.kept, ?_, hR.defers⟩
    rw [hst]
    exact hR.frame.sub (fun d => .inr (hframe d).symm)
  have ready_all : ∀ (listed : Array Bool), listed.size = ops.size → Region.ready .any ops listed = [] → ∀ k, k < ops.size → listed.getD k false = true := by
    intro listed hsz hr k
    induction k using Nat.strongRecOn with
    | _ k ih =>
      intro hk
      by_cases hl : listed.getD k false = true
      · exact hl
      · exfalso
        have hmem : k ∈ Region.ready .any ops listed := by
          rw [mem_ready]
          refine ⟨?_, ops[k], by simp [hk], fun e he hb => ?_⟩
          · have hkl : k < listed.size := by omega
            simp [hkl] at hl ⊢
            exact hl
          · have := (masksOk_get hm k ops[k] (by simp [hk])).2 e he hb
            exact ih e.on (by omega) (by omega)
        rw [hr] at hmem
        cases hmem
  intro fuel
  induction fuel with
  | zero =>
    intro listed B t g1 w1 a1 hsz hc hM hR
    have hall : ∀ k, k < ops.size → listed.getD k false = true := by
      intro k hk
      have hkl : k < listed.size := by omega
      have h0 : listed.toList.count false = 0 := by omega
      rw [List.count_eq_zero] at h0
      cases hb : listed[k]
      · exact absurd (by rw [← hb]; simp) h0
      · simp [hkl, hb]
    refine ⟨?_, done listed B t g1 w1 a1 hsz hM hR hall⟩
    cases hr : Region.ready .any ops listed with
    | nil => rfl
    | cons k l =>
      have hk : k ∈ Region.ready .any ops listed := by rw [hr]; simp
      rw [mem_ready] at hk
      obtain ⟨h0, o, ho, _⟩ := hk
      have hk := (Array.getElem?_eq_some_iff.1 ho).1
      have := hall k hk
      have hkl : k < listed.size := by omega
      simp [hkl] at h0 this
      rw [h0] at this
      cases this
  | succ fuel ih =>
    intro listed B t g1 w1 a1 hsz hc hM hR
    refine ⟨fun hr => done listed B t g1 w1 a1 hsz hM hR (ready_all listed hsz hr), fun i hi => ?_⟩
    rw [mem_ready] at hi
    obtain ⟨h0, o, ho, hr⟩ := hi
    have hil := (Array.getElem?_eq_some_iff.1 ho).1
    have hlf : listed[i]? = some false := by
      have hkl : i < listed.size := by omega
      simp [hkl] at h0 ⊢
      exact h0
    obtain ⟨x, hx, hox⟩ := hget i o (by simpa using ho)
    obtain ⟨B', t', hst, hM'⟩ := mid_step hlen hT hm hp hpairs hM (i := i) (o := o) (x := x) (by simpa using ho) hx (by
      rw [Array.getD_eq_getD_getElem?, hlf]; simp) hr
    obtain ⟨b, hw, hst⟩ := hst
    refine oper_sound hcall hR.sim hR.frame hox hw hst ho (fun a2 w2 g2 hp2 => ?_)
    refine ih _ B' t' g2 w2 a2 (by simp [hsz]) ?_ ?_ (hR.trans hp2)
    · rw [Array.toList_setIfInBounds]
      have := count_set listed.toList i (by simpa using hlf)
      omega
    · have : (fun k => (listed.setIfInBounds i true).getD k false = true) = fun k => listed.getD k false = true ∨ k = i := by
        funext k
        by_cases e : k = i
        · subst e
          have hkl : k < listed.size := by omega
          simp [hkl]
        · rw [getD_set_ne false (Ne.symm e)]
          simp [e]
      rw [this]
      exact hM'

theorem draw_sound {r : Option Nat} {m : Nat} (hcall : CallSound P fm call) (hmx : P.follows .mixedOrders = true) (hok : okOpers P fm nt ops aos ops.toList = true) (hdr : okDraw pairs aos ops.toList = true)
    {id : Nat} {keep : List Nat} (hS : Sim fm s g w) (hF : FrameRep fm g s.n nt A a.tmps) (h : exDraw call pairs aos A s = some (A', s')) {Q : Exit → Act → World → Prop}
    (hQ : ∀ a' w' g', RPost fm nt g w s s' (A'.keep keep) a a' g' w' → Q .normal a' w') : (Code.region id ops true).wpIn (FW r) m P Q a w := by
  simp only [okDraw, Bool.and_eq_true] at hdr
  simp only [exDraw] at h
  obtain ⟨tr, htr, h⟩ := bind_some' h
  by_cases hpr : pairs.all (pairOk aos tr) = true
  case neg => rw [if_neg hpr] at h; cases h
  rw [if_pos hpr] at h
  obtain ⟨q1, q2, q3⟩ := exTrace_steps _ _ _ _ htr
  obtain ⟨hlen, _⟩ := okOpers_get hok
  have hlen' : aos.length = ops.size := by simpa using hlen
  let T : Nat → Frame × ASt := fun i => tr.getD i ([], ⟨0, []⟩)
  have hT0 : T 0 = (A, s) := by simp [T, List.getD_eq_getElem?_getD, q2]
  have htr' : ∀ i, i < aos.length + 1 → tr[i]? = some (T i) := fun i hi => by
    have : i < tr.length := by omega
    simp [T, this]
  have hTn : T aos.length = (A', s') := by
    have := htr' aos.length (by omega)
    rw [List.getLast?_eq_getElem?, q1, Nat.add_sub_cancel, this] at h
    simpa using h
  refine wpIn_region_any hmx ?_
  refine any_sound (T := T) (g := g) (w := { w with drawn := w.drawn + 1 }) (s := s) (a := a) hcall hok (fun i o ho => ?_) hdr.1 hdr.2 (fun j l o hjl ho => ?_) (fun a' w' g' hp => ?_) ops.size _ A s g _ a (by simp) ?_ ?_ ?_
  · have hi := (List.getElem?_eq_some_iff.1 ho).1
    exact q3 i o _ _ _ _ ho (htr' i (by omega)) (htr' (i + 1) (by omega))
  · rw [List.all_eq_true] at hpr
    have := hpr (j, l) hjl
    simp only [pairOk] at this
    split at this
    · rename_i A1 s1 A2 s2 A3 s3 o' e1 e2 e3 e4
      rw [ho] at e4
      cases e4
      have hT1 : T j = (A1, s1) := by simp [T, List.getD_eq_getElem?_getD, e1]
      have hT2 : T (j + 1) = (A2, s2) := by simp [T, List.getD_eq_getElem?_getD, e2]
      have hT3 : T l = (A3, s3) := by simp [T, List.getD_eq_getElem?_getD, e3]
      rw [hT1, hT2, hT3]
      simp only [Bool.or_eq_true, beq_iff_eq] at this
      exact this.imp (fun h => h) readsSame_eq
    · cases this
  · rw [hTn] at hp
    exact hQ a' w' g' ⟨hp.sim, hp.le, hp.n, ⟨hp.kept.blk, hp.kept.os, hp.kept.out, hp.kept.mst⟩, hp.frame.keeps keep, hp.defers⟩
  · simp
  · refine ⟨fun i o ho hX => ?_, fun d i hi h1 h2 => ?_, 0, Nat.zero_le _, fun k x hk => by omega, fun k x hk hx hs hX => ?_, by rw [hT0]⟩
    · have hX : (Array.replicate ops.size false).getD i false = true := hX
      simp only [Array.getD_eq_getD_getElem?, Array.getElem?_replicate] at hX
      split at hX <;> simp at hX
    · have hno : ∀ k x, k < i → aos[k]? = some x → d ∉ x.writes := fun k x hk hx hd => by
        have hX := h1 k x hk hx hd
        simp only [Array.getD_eq_getD_getElem?, Array.getElem?_replicate] at hX
        split at hX <;> simp at hX
      have hTs : ∀ i o, aos[i]? = some o → OperStep call o (T i).1 (T i).2 (T (i + 1)).1 (T (i + 1)).2 := fun i o ho => by
        have hi := (List.getElem?_eq_some_iff.1 ho).1
        exact q3 i o _ _ _ _ ho (htr' i (by omega)) (htr' (i + 1) (by omega))
      rw [putless hTs (Nat.zero_le i) hi (fun k x _ hk hx => hno k x hk hx), hT0]
    · have hX : (Array.replicate ops.size false).getD k false = true := hX
      simp only [Array.getD_eq_getD_getElem?, Array.getElem?_replicate] at hX
      split at hX <;> simp at hX
  · exact ⟨hS.drew _, le.refl _ _, Nat.le_refl _, Kept.refl _ _, hF, rfl⟩

end
end Go.Proofs.YtdhgdpokdhjanaaGreat.Abs
