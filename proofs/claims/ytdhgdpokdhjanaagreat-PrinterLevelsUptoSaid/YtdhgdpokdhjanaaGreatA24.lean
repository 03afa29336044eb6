/- The abstract machine is sound. -/
import Derived.Test.YtdhgdpokdhjanaaGreatA23
set_option linter.unusedSimpArgs false
set_option linter.unusedVariables false
namespace Go.Proofs.YtdhgdpokdhjanaaGreat.Abs
open Go

def okFunc (P : Program) (fm : Nat → Nat) (af : AFunc) (fn : Func) : Bool :=
  match fn.body with
  | some c => okCode P fm fn.ntmps af.code c && resOks P af.results fn.results.toList && decide (af.params ≤ fn.ntmps) && !(fn.name == "runtime.NumGoroutine")
  | none => false

structure Sound (P : Program) (fm : Nat → Nat) (C : Cfg) : Prop where
  mixed : P.follows .mixedOrders = true
  few : P.funcs.size ≤ 1000000
  funcs : ∀ i af, C.funcs i = some af → C.ext i = none → ∃ fn, P.funcs[fm i]? = some fn ∧ okFunc P fm af fn = true
  ext : CallSound P fm (fun f args s => match C.ext f with | some h => h args s | none => none)

section
variable {P : Program} {fm : Nat → Nat} {nt : Nat} {g g' g'' : Gh} {s s' s'' t : ASt} {A A' A'' B : Frame} {a a' a'' : Act} {w w' w'' : World} {call : CallFn} {loop : LoopFn} {C : Cfg}

theorem params_get (n : Nat) : ∀ (args : List AVal) (k d : Nat), Frame.get (params k args) d = if k ≤ d ∧ d < k + args.length then args.getD (d - k) .undef else .undef
  | [], k, d => by simp [params, Frame.get]
  | v :: r, k, d => by
    simp only [params, Frame.get]
    by_cases h : k = d
    · subst h; simp
    · rw [if_neg h, params_get n r (k + 1) d]
      by_cases h2 : k + 1 ≤ d ∧ d < k + 1 + r.length
      · rw [if_pos h2, if_pos (by simp only [List.length_cons]; omega)]
        rw [show d - k = (d - (k + 1)) + 1 from by omega]
        rfl
      · rw [if_neg h2, if_neg (by simp only [List.length_cons]; omega)]

theorem params_frame {args : List AVal} {vs : Array Value} (hR : RepL fm g s.n args vs.toList) (hn : args.length ≤ nt) :
    FrameRep fm g s.n nt (params 0 args) (vs ++ Array.replicate (nt - vs.size) undef) := by
  have hl : args.length = vs.size := by simpa using hR.length
  refine ⟨by simp; omega, fun d hd => ?_⟩
  rw [params_get 0] at hd ⊢
  by_cases h : 0 ≤ d ∧ d < 0 + args.length
  · rw [if_pos h] at hd ⊢
    have hlt : d < args.length := by omega
    obtain ⟨v, h1, h2⟩ := hR.get d args[d] (by simp [hlt])
    have hlt' : d < vs.size := by omega
    refine ⟨v, ?_, ?_⟩
    · rw [Array.getElem?_append_left hlt']
      simpa using h1
    · simp only [Nat.sub_zero, List.getD_eq_getElem?_getD, hlt, List.getElem?_eq_getElem, Option.getD_some]
      exact h2.slot
  · rw [if_neg h] at hd
    exact absurd rfl hd

theorem stepCall_sound {j : Nat} (hC : Sound P fm C) (hcall : CallSound P fm call) (hloop : ∀ nt, LoopSound P fm nt j loop) : CallSound P fm (stepCall C call loop) := by
  intro f args s v s' h
  simp only [stepCall] at h
  cases hx : C.ext f with
  | some e =>
    rw [hx] at h
    have := hC.ext f args s v s' (by simp only [hx]; exact h)
    exact this
  | none =>
    rw [hx] at h
    simp only at h
    cases hf : C.funcs f with
    | none => rw [hf] at h; cases h
    | some af =>
      rw [hf] at h
      simp only [runBody] at h
      obtain ⟨fn, hfn, hok⟩ := hC.funcs f af hf hx
      unfold okFunc at hok
      cases hbody : fn.body with
      | none => rw [hbody] at hok; cases hok
      | some c =>
      rw [hbody] at hok
      simp only [Bool.and_eq_true, decide_eq_true_eq, Bool.not_eq_true'] at hok
      obtain ⟨⟨⟨hok1, hok2⟩, hok3⟩, hok4⟩ := hok
      refine ⟨⟨Nat.lt_of_lt_of_le (Array.getElem?_eq_some_iff.1 hfn).1 hC.few, fn, hfn, by simp [hbody], hok4⟩, ?_⟩
      by_cases hlen : args.length = af.params
      case neg => rw [if_neg hlen] at h; cases h
      rw [if_pos hlen] at h
      obtain ⟨⟨e, A1, s1⟩, hex, h⟩ := bind_some' h
      intro g w vs m hS hR
      refine callsIn_of_wp hfn hbody trivial ?_ rfl
      have hF := params_frame (nt := fn.ntmps) hR (by omega)
      refine exec_sound hC.mixed hcall (hloop fn.ntmps) af.code c _ s g w _ e A1 s1 _ hok1 hS hF hex (fun a1 w1 g1 hp => ?_)
      have key : ∀ (hres : (do
            let v ← Abs.results A1 s1 af.results
            if af.live ∨ s1.n = s.n then some (v, s1) else do
            let v ← fz s.n s1 depth v
            some (v, s1.trunc s.n)) = some (v, s')), a1.defers = [] ∧ ∃ cv, (Go.results fn a1.tmps).run P w1 = .ok cv w1 ∧ CallPost fm g w s s' v (.returned cv) w1 := by
        intro hres
        obtain ⟨v0, hv0, hres⟩ := bind_some' hres
        obtain ⟨cv, g2, q1, q2, q3, q4, q5⟩ := results_sound hp.sim hp.frame hok2 hv0
        by_cases hlive : af.live = true ∨ s1.n = s.n
        · rw [if_pos hlive] at hres
          cases hres
          exact ⟨hp.defers, cv, q1, cv, g2, rfl, q2, hp.le.trans (q3.less hp.n), hp.n, hp.kept.trans q4, q5⟩
        rw [if_neg hlive] at hres
        obtain ⟨v1, hv1, hres⟩ := bind_some' hres
        cases hres
        refine ⟨hp.defers, cv, q1, cv, g2.frozen s.n w1, rfl, q2.frozen hp.n, ((hp.le.trans (q3.less hp.n)).trans (frozen_le q2 _)), Nat.le_refl _, (hp.kept.trans q4).trans (frozen_kept _), ?_⟩
        exact fz_slot q2 hp.n (by simp) q5 hv1
      cases e with
      | normal => exact key h
      | ret => exact key h
      | exit id => cases h

theorem upto_sound (hC : Sound P fm C) : ∀ k, CallSound P fm (upto C k).1 ∧ ∀ nt, LoopSound P fm nt k (upto C k).2
  | 0 => ⟨fun _ _ _ _ _ h => (nomatch h), fun _ _ _ _ _ _ _ _ h => (nomatch h)⟩
  | k + 1 => by
    obtain ⟨h1, h2⟩ := upto_sound hC k
    exact ⟨stepCall_sound hC h1 h2, fun nt => stepLoop_sound hC.mixed h1 (h2 nt)⟩

theorem Call_sound (hC : Sound P fm C) : CallSound P fm (Call C) := by
  intro f args s v s' h
  obtain ⟨k, hk⟩ := of_Call C h
  exact (upto_sound hC k).1 f args s v s' hk

/-- The machine runs and comes back, from a memory of which nothing is asked. -/
theorem Call_calls (hC : Sound P fm C) {f : Nat} {args : List AVal} {s s' : ASt} {v : AVal} (h : Call C f args s = some (v, s')) {g : Gh} {w : World} {vs : Array Value} (hS : Sim fm s g w) (hR : RepL fm g s.n args vs.toList) :
    Calls P (fm f) vs w (CallPost fm g w s s' v) :=
  callsIn_wide.1 ((Call_sound hC f args s v s' h).2 g w vs 0 hS hR)

end
end Go.Proofs.YtdhgdpokdhjanaaGreat.Abs
