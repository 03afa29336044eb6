/- Regions whose order is open, whatever their instructions: by what holds whichever of them are done. -/
import Derived.Test.YtdhgdpokdhjanaaGreatA22
set_option linter.unusedSimpArgs false
set_option linter.unusedVariables false
namespace Go.Proofs.YtdhgdpokdhjanaaGreat.Abs
open Go

section
variable {P : Program} {fm : Nat → Nat} {nt : Nat} {g g' g'' : Gh} {s s' s'' t : ASt} {A A' A'' B : Frame} {a a' a'' : Act} {w w' w'' : World} {call : CallFn}
variable {aos : List AOper} {ops : Array Oper}

def bindsDone (o : Oper) (X : Nat → Prop) : Prop := ∀ e ∈ o.after, Region.binds .any e = true → X e.on

theorem any_inv {r : Option Nat} {m : Nat} (hcall : CallSound P fm call) (hok : okOpers P fm nt ops aos ops.toList = true)
    (hback : ∀ (k : Nat) (o : Oper), ops[k]? = some o → ∀ e ∈ o.after, Region.binds .any e = true → e.on < k)
    (J : (Nat → Prop) → Frame → ASt → Prop)
    (hJ : ∀ (X : Nat → Prop) (B : Frame) (t : ASt) (i : Nat) (x : AOper) (o : Oper), J X B t → ¬ X i → aos[i]? = some x → ops[i]? = some o → bindsDone o X →
      ∃ B' t', OperStep call x B t B' t' ∧ J (fun k => X k ∨ k = i) B' t')
    {Q : Exit → Act → World → Prop} (hQ : ∀ X B t a' w' g', (∀ k, k < ops.size → X k) → J X B t → RPost fm nt g w s t B a a' g' w' → Q .normal a' w') :
    ∀ (fuel : Nat) (listed : Array Bool) (B : Frame) (t : ASt) (g1 : Gh) (w1 : World) (a1 : Act), listed.size = ops.size → listed.toList.count false ≤ fuel → J (fun k => listed.getD k false = true) B t →
      RPost fm nt g w s t B a a1 g1 w1 → wpAnyIn (FW r) m P .any ops Q fuel listed a1 w1 := by
  obtain ⟨hlen, hget⟩ := okOpers_get hok
  have ready_all : ∀ (listed : Array Bool), listed.size = ops.size → Region.ready .any ops listed = [] → ∀ k, k < ops.size → listed.getD k false = true := by
    intro listed hsz hr k
    induction k using Nat.strongRecOn with
    | _ k ih =>
      intro hk
      by_cases hl : listed.getD k false = true
      · exact hl
      · exfalso
        have hmem : k ∈ Region.ready .any ops listed := by
          rw [mem_ready]
          refine ⟨?_, ops[k], by simp [hk], fun e he hb => ?_⟩
          · have hkl : k < listed.size := by omega
            simp [hkl] at hl ⊢
            exact hl
          · have := hback k ops[k] (by simp [hk]) e (by simpa using he) hb
            exact ih e.on (by omega) (by omega)
        rw [hr] at hmem
        cases hmem
  intro fuel
  induction fuel with
  | zero =>
    intro listed B t g1 w1 a1 hsz hc hM hR
    have hall : ∀ k, k < ops.size → listed.getD k false = true := by
      intro k hk
      have hkl : k < listed.size := by omega
      have h0 : listed.toList.count false = 0 := by omega
      rw [List.count_eq_zero] at h0
      cases hb : listed[k]
      · exact absurd (by rw [← hb]; simp) h0
      · simp [hkl, hb]
    refine ⟨?_, hQ _ B t a1 w1 g1 hall hM hR⟩
    cases hr : Region.ready .any ops listed with
    | nil => rfl
    | cons k l =>
      have hk : k ∈ Region.ready .any ops listed := by rw [hr]; simp
      rw [mem_ready] at hk
      obtain ⟨h0, o, ho, _⟩ := hk
      have hk := (Array.getElem?_eq_some_iff.1 ho).1
      have := hall k hk
      have hkl : k < listed.size := by omega
      simp [hkl] at h0 this
      rw [h0] at this
      cases this
  | succ fuel ih =>
    intro listed B t g1 w1 a1 hsz hc hM hR
    refine ⟨fun hr => hQ _ B t a1 w1 g1 (ready_all listed hsz hr) hM hR, fun i hi => ?_⟩
    rw [mem_ready] at hi
    obtain ⟨h0, o, ho, hr⟩ := hi
    have hil := (Array.getElem?_eq_some_iff.1 ho).1
    have hlf : listed[i]? = some false := by
      have hkl : i < listed.size := by omega
      simp [hkl] at h0 ⊢
      exact h0
    obtain ⟨x, hx, hox⟩ := hget i o (by simpa using ho)
    obtain ⟨B', t', hst, hM'⟩ := hJ _ B t i x o hM (by rw [Array.getD_eq_getD_getElem?, hlf]; simp) hx ho (fun e he hb => hr e (by simpa using he) hb)
    obtain ⟨b, hw, hst⟩ := hst
    refine oper_sound hcall hR.sim hR.frame hox hw hst ho (fun a2 w2 g2 hp2 => ?_)
    refine ih _ B' t' g2 w2 a2 (by simp [hsz]) ?_ ?_ (hR.trans hp2)
    · rw [Array.toList_setIfInBounds]
      have := count_set listed.toList i (by simpa using hlf)
      omega
    · have : (fun k => (listed.setIfInBounds i true).getD k false = true) = fun k => listed.getD k false = true ∨ k = i := by
        funext k
        by_cases e : k = i
        · subst e
          have hkl : k < listed.size := by omega
          simp [hkl]
        · rw [getD_set_ne false (Ne.symm e)]
          simp [e]
      rw [this]
      exact hM'

theorem draw_inv {r : Option Nat} {m : Nat} (hcall : CallSound P fm call) (hmx : P.follows .mixedOrders = true) (hok : okOpers P fm nt ops aos ops.toList = true)
    (hback : ∀ (k : Nat) (o : Oper), ops[k]? = some o → ∀ e ∈ o.after, Region.binds .any e = true → e.on < k)
    (J : (Nat → Prop) → Frame → ASt → Prop)
    (hJ : ∀ (X : Nat → Prop) (B : Frame) (t : ASt) (i : Nat) (x : AOper) (o : Oper), J X B t → ¬ X i → aos[i]? = some x → ops[i]? = some o → bindsDone o X →
      ∃ B' t', OperStep call x B t B' t' ∧ J (fun k => X k ∨ k = i) B' t')
    {id : Nat} (hS : Sim fm s g w) (hF : FrameRep fm g s.n nt A a.tmps) (h0 : J (fun _ => False) A s) {Q : Exit → Act → World → Prop}
    (hQ : ∀ X B t a' w' g', (∀ k, k < ops.size → X k) → J X B t → RPost fm nt g w s t B a a' g' w' → Q .normal a' w') : (Code.region id ops true).wpIn (FW r) m P Q a w := by
  refine wpIn_region_any hmx ?_
  refine any_inv (g := g) (w := { w with drawn := w.drawn + 1 }) (s := s) (a := a) hcall hok hback J hJ (fun X B t a' w' g' hX hJ hp => ?_) ops.size _ A s g _ a (by simp) ?_ ?_ ?_
  · exact hQ X B t a' w' g' hX hJ ⟨hp.sim, hp.le, hp.n, ⟨hp.kept.blk, hp.kept.os, hp.kept.out, hp.kept.mst⟩, hp.frame, hp.defers⟩
  · simp
  · have : (fun k => (Array.replicate ops.size false).getD k false = true) = fun _ => False := by
      funext k
      simp only [Array.getD_eq_getD_getElem?, Array.getElem?_replicate]
      split <;> simp
    rw [this]
    exact h0
  · exact ⟨hS.drew _, le.refl _ _, Nat.le_refl _, Kept.refl _ _, hF, rfl⟩

end
end Go.Proofs.YtdhgdpokdhjanaaGreat.Abs
