/- Whole functions. -/
import Derived.Test.YtdhgdpokdhjanaaGreatA22
import Derived.LoopNIn
set_option linter.unusedSimpArgs false
set_option linter.unusedVariables false
namespace Go.Proofs.YtdhgdpokdhjanaaGreat.Abs
open Go

section
variable (P : Program) (fm : Nat → Nat) (nt : Nat)

def okCode : ACode → Code → Bool
  | .skip, .skip => true
  | .region none aos _, .region _ ops false => okOpers P fm nt ops aos ops.toList
  | .region (some pairs) aos _, .region _ ops true => okOpers P fm nt ops aos ops.toList && okDraw pairs aos ops.toList
  | .seq a b, .seq x y => okCode a x && okCode b y
  | .cond c a b, .cond d x y => okOpd fm c d && okCode a x && okCode b y
  | .block i a, .block j x => i == j && okCode a x
  | .loop a _, .loop x => okCode a x
  | .exit i, .exit j => i == j
  | .ret, .ret => true
  | .bad, _ => true
  | _, _ => false

def resOk : ARes → ResultVar → Bool
  | .slot d, .tmp t => d == t
  | .cell d n agg, .cell a t => d == a && aggIs P t agg && sizeIs P t n
  | _, _ => false
def resOks : List ARes → List ResultVar → Bool
  | [], [] => true
  | r :: l, q :: m => resOk P r q && resOks l m
  | _, _ => false
end

def AExit.real : AExit → Exit
  | .normal => .normal
  | .exit id => .exit id
  | .ret => .ret

def LoopSound (P : Program) (fm : Nat → Nat) (nt : Nat) (j : Nat) (loop : LoopFn) : Prop :=
  ∀ b keep A s e A' s', loop b keep A s = some (e, A', s') → ∀ c, okCode P fm nt b c = true → ∀ (g : Gh) (w : World) (a : Act), Sim fm s g w → FrameRep fm g s.n nt A a.tmps →
    ∀ (r : Option Nat) (m : Nat) (Q : Exit → Act → World → Prop), (∀ a' w' g', RPost fm nt g w s s' A' a a' g' w' → Q e.real a' w') → Code.roundsIn (FW r) m P c Q j a w

section
variable {P : Program} {fm : Nat → Nat} {nt : Nat} {g g' g'' : Gh} {s s' s'' t : ASt} {A A' A'' B : Frame} {a a' a'' : Act} {w w' w'' : World} {call : CallFn} {loop : LoopFn}

theorem exec_sound {j : Nat} (hmx : P.follows .mixedOrders = true) (hcall : CallSound P fm call) (hloop : LoopSound P fm nt j loop) {r : Option Nat} {m : Nat} : ∀ (ac : ACode) (c : Code) (A : Frame) (s : ASt) (g : Gh) (w : World) (a : Act) (e : AExit) (A' : Frame) (s' : ASt)
    (Q : Exit → Act → World → Prop), okCode P fm nt ac c = true → Sim fm s g w → FrameRep fm g s.n nt A a.tmps → exec call loop ac A s = some (e, A', s') →
    (∀ a' w' g', RPost fm nt g w s s' A' a a' g' w' → Q e.real a' w') → c.wpIn (FW r) m P Q a w
  | .skip, c, A, s, g, w, a, e, A', s', Q, hok, hS, hF, h, hQ => by
    cases c <;> simp only [okCode, Bool.false_eq_true] at hok
    cases h
    exact wpIn_skip (hQ _ _ _ ⟨hS, le.refl _ _, Nat.le_refl _, Kept.refl _ _, hF, rfl⟩)
  | .region none aos keep, c, A, s, g, w, a, e, A', s', Q, hok, hS, hF, h, hQ => by
    cases c <;> try (simp only [okCode, Bool.false_eq_true] at hok; done)
    rename_i id ops d
    cases d <;> simp only [okCode, Bool.false_eq_true] at hok
    simp only [exec] at h
    obtain ⟨⟨A1, s1⟩, h1, h2⟩ := map_some' h
    cases h2
    exact region_sound hcall hok hS hF h1 hQ
  | .region (some pairs) aos keep, c, A, s, g, w, a, e, A', s', Q, hok, hS, hF, h, hQ => by
    cases c <;> try (simp only [okCode, Bool.false_eq_true] at hok; done)
    rename_i id ops d
    cases d <;> simp only [okCode, Bool.false_eq_true, Bool.and_eq_true] at hok
    simp only [exec] at h
    obtain ⟨⟨A1, s1⟩, h1, h2⟩ := map_some' h
    cases h2
    exact draw_sound hcall hmx hok.1 hok.2 hS hF h1 hQ
  | .seq x y, c, A, s, g, w, a, e, A', s', Q, hok, hS, hF, h, hQ => by
    cases c <;> simp only [okCode, Bool.false_eq_true, Bool.and_eq_true] at hok
    simp only [exec] at h
    obtain ⟨⟨e1, A1, s1⟩, h1, h2⟩ := bind_some' h
    refine wpIn_seq (exec_sound hmx hcall hloop x _ A s g w a e1 A1 s1 _ hok.1 hS hF h1 (fun a1 w1 g1 hp => ?_))
    cases e1 with
    | normal =>
      exact exec_sound hmx hcall hloop y _ A1 s1 g1 w1 a1 e A' s' _ hok.2 hp.sim hp.frame h2 (fun a2 w2 g2 hp2 => hQ _ _ _ (hp.trans hp2))
    | exit id => cases h2; exact hQ _ _ _ hp
    | ret => cases h2; exact hQ _ _ _ hp
  | .cond x y z, c, A, s, g, w, a, e, A', s', Q, hok, hS, hF, h, hQ => by
    cases c <;> simp only [okCode, Bool.false_eq_true, Bool.and_eq_true] at hok
    simp only [exec] at h
    have hc := okOpd_rep hF hok.1.1
    split at h
    · rename_i b hb
      rw [hb] at hc
      have hv := Rep.bool_inv hc
      refine wpIn_cond hv ?_
      cases b with
      | true =>
        simp only [if_true] at h ⊢
        exact exec_sound hmx hcall hloop y _ A s g w a e A' s' _ hok.1.2 hS hF h hQ
      | false =>
        simp only [Bool.false_eq_true, if_false] at h ⊢
        exact exec_sound hmx hcall hloop z _ A s g w a e A' s' _ hok.2 hS hF h hQ
    · cases h
  | .block id x, c, A, s, g, w, a, e, A', s', Q, hok, hS, hF, h, hQ => by
    cases c <;> simp only [okCode, Bool.false_eq_true, Bool.and_eq_true, beq_iff_eq] at hok
    obtain ⟨rfl, hok⟩ := hok
    simp only [exec] at h
    obtain ⟨⟨e1, A1, s1⟩, h1, h2⟩ := map_some' h
    cases h2
    refine wpIn_block (exec_sound hmx hcall hloop x _ A s g w a e1 _ _ _ hok hS hF h1 (fun a1 w1 g1 hp => ?_))
    have := hQ a1 w1 g1 hp
    cases e1 with
    | normal => simpa [Exit.inBlock, AExit.real] using this
    | exit id' =>
      simp only [Exit.inBlock, AExit.real, AExit.exit.injEq] at this ⊢
      by_cases hid : id' = id
      · simpa [hid] using this
      · simpa [hid] using this
    | ret => simpa [Exit.inBlock, AExit.real] using this
  | .loop x keep, c, A, s, g, w, a, e, A', s', Q, hok, hS, hF, h, hQ => by
    cases c <;> simp only [okCode, Bool.false_eq_true] at hok
    exact wpIn_loop_rounds j (hloop x keep A s e A' s' h _ hok g w a hS hF r m Q hQ)
  | .exit id, c, A, s, g, w, a, e, A', s', Q, hok, hS, hF, h, hQ => by
    cases c <;> simp only [okCode, Bool.false_eq_true, beq_iff_eq] at hok
    cases h
    subst hok
    exact wpIn_exit (hQ _ _ _ ⟨hS, le.refl _ _, Nat.le_refl _, Kept.refl _ _, hF, rfl⟩)
  | .ret, c, A, s, g, w, a, e, A', s', Q, hok, hS, hF, h, hQ => by
    cases c <;> simp only [okCode, Bool.false_eq_true] at hok
    cases h
    exact wpIn_ret (hQ _ _ _ ⟨hS, le.refl _ _, Nat.le_refl _, Kept.refl _ _, hF, rfl⟩)
  | .bad, _, _, _, _, _, _, _, _, _, _, _, _, _, h, _ => by cases h

theorem keepF_sound {n : Nat} (hS : Sim fm s g w) (hn : n ≤ s.n) (hF : FrameRep fm g s.n nt A a.tmps) : ∀ {ds : List Nat} {B : Frame}, keepF n s A ds = some B → FrameRep fm (g.frozen n w) n nt B a.tmps
  | [], B, h => by
    cases h
    exact ⟨hF.1, fun d hd => absurd rfl hd⟩
  | k :: ds, B, h => by
    simp only [keepF] at h
    obtain ⟨v, hv, h⟩ := bind_some' h
    obtain ⟨C, hC, h⟩ := bind_some' h
    cases h
    have ih := keepF_sound hS hn hF hC
    refine ⟨hF.1, fun d hd => ?_⟩
    by_cases hk : k = d
    · subst hk
      have e : Frame.get ((k, v) :: C) k = v := by simp [Frame.get]
      rw [e] at hd ⊢
      have hu : A.get k ≠ .undef := by
        intro hu
        rw [hu] at hv
        unfold fz depth at hv
        simp [AVal.under] at hv
        exact hd hv.symm
      obtain ⟨cv, h1, h2⟩ := hF.2 k hu
      exact ⟨cv, h1, fz_slot hS hn (by simp) h2 hv⟩
    · have e : Frame.get ((k, v) :: C) d = Frame.get C d := by simp [Frame.get, hk]
      rw [e] at hd ⊢
      exact ih.2 d hd

theorem stepLoop_sound {j : Nat} (hmx : P.follows .mixedOrders = true) (hcall : CallSound P fm call) (hloop : LoopSound P fm nt j loop) : LoopSound P fm nt (j + 1) (stepLoop call loop) := by
  intro b keep A s e A' s' h c hok g w a hS hF r m Q hQ
  simp only [stepLoop] at h
  obtain ⟨⟨e1, A1, s1⟩, h1, h2⟩ := bind_some' h
  rw [roundsIn_succ]
  refine exec_sound hmx hcall hloop b c _ s g w a e1 A1 s1 _ hok hS (hF.keeps keep) h1 (fun a1 w1 g1 hp => ?_)
  cases e1 with
  | normal =>
    simp only at h2
    by_cases hn : s1.n = s.n
    · rw [if_pos hn] at h2
      exact hloop b keep A1 s1 e A' s' h2 c hok _ _ _ hp.sim hp.frame r m Q (fun a2 w2 g2 hp2 => hQ _ _ _ (hp.trans hp2))
    rw [if_neg hn] at h2
    obtain ⟨B, hB, h2⟩ := bind_some' h2
    have hS' := hp.sim.frozen hp.n
    have hF' := keepF_sound hp.sim hp.n hp.frame hB
    have hp' : RPost fm nt g w s (s1.trunc s.n) B a a1 (g1.frozen s.n w1) w1 := ⟨hS', hp.le.trans ((frozen_le hp.sim _)), Nat.le_refl _, hp.kept.trans (frozen_kept _), hF', hp.defers⟩
    exact hloop b keep B (s1.trunc s.n) e A' s' h2 c hok _ _ _ hS' hF' r m Q (fun a2 w2 g2 hp2 => hQ _ _ _ (hp'.trans hp2))
  | exit id => cases h2; exact hQ _ _ _ hp
  | ret => cases h2; exact hQ _ _ _ hp

/-- What is read of one result variable. -/
def resOf (tmps : Array Value) : ResultVar → Sem Value
  | .tmp t => pure (tmps.getD t undef)
  | .cell a t => do loadVar t (← asAddr (tmps.getD a undef))

theorem tmp_val (hF : FrameRep fm g s.n nt A a.tmps) (d : Nat) : SlotRep fm g s.n (.slot d) (A.get d) (a.tmps.getD d undef) := by
  by_cases hu : A.get d = .undef
  · rw [hu]; exact Rep.undef _
  · obtain ⟨v, hv, hs⟩ := hF.2 d hu
    have hlt : d < a.tmps.size := (Array.getElem?_eq_some_iff.1 hv).1
    have : a.tmps.getD d undef = v := by simp [Array.getD, hlt, (Array.getElem?_eq_some_iff.1 hv).2]
    rw [this]
    exact hs

theorem resOf_run (hS : Sim fm s g w) (hF : FrameRep fm g s.n nt A a.tmps) {r : ARes} {q : ResultVar} (hok : resOk P r q = true) {v : AVal} (h : result A s r = some v) :
    ∃ cv, (resOf a.tmps q).run P w = .ok cv w ∧ ∃ t, SlotRep fm g s.n t v cv ∧ (t = .res ∨ ∃ d, r = .slot d ∧ t = .slot d) := by
  cases r with
  | slot d =>
    cases q <;> simp only [resOk, Bool.false_eq_true, beq_iff_eq] at hok
    subst hok
    cases h
    exact ⟨_, rfl, .slot d, tmp_val hF d, .inr ⟨d, rfl, rfl⟩⟩
  | cell d n agg =>
    cases q <;> simp only [resOk, Bool.false_eq_true, Bool.and_eq_true, beq_iff_eq] at hok
    obtain ⟨⟨rfl, h1⟩, h2⟩ := hok
    simp only [result] at h
    have hr := (tmp_val hF d).strip
    generalize hcx : a.tmps.getD d undef = cx at hr
    obtain ⟨cv, e1, e2⟩ := load_run (P := P) (tg := .res) hS hr h1 h2 h
    refine ⟨cv, ?_, .res, e2, .inl rfl⟩
    have : ∃ ad, cx = .pointer (some ad) := by
      generalize (A.get d).strip = x at h hr
      cases x <;> simp only [loadAt] at h <;> try (cases h; done)
      · cases hr; exact ⟨_, rfl⟩
      · cases hr; exact ⟨_, rfl⟩
    obtain ⟨ad, rfl⟩ := this
    rw [← e1]
    simp only [resOf, asAddr, hcx, Instr.loadAt, Instr.sureAddr, Sem.run_bind, Sem.run_pure, Result.andThen_ok]

theorem resOf_list (hS : Sim fm s g w) (hF : FrameRep fm g s.n nt A a.tmps) : ∀ {rs : List ARes} {qs : List ResultVar} {l : List AVal}, resOks P rs qs = true → rs.mapM (result A s) = some l →
    ∃ cvs, (qs.mapM (resOf a.tmps)).run P w = .ok cvs w ∧ RepL fm g s.n (l.map AVal.strip) cvs
  | [], [], l, _, h => by
    simp at h
    subst h
    exact ⟨[], rfl, .nil⟩
  | r :: rs, q :: qs, l, hok, h => by
    simp only [resOks, Bool.and_eq_true] at hok
    simp only [List.mapM_cons] at h
    obtain ⟨v, hv, h⟩ := bind_some' h
    obtain ⟨l', hl, h⟩ := bind_some' h
    cases h
    obtain ⟨cv, e1, t, e2, _⟩ := resOf_run hS hF hok.1 hv
    obtain ⟨cvs, f1, f2⟩ := resOf_list hS hF hok.2 hl
    refine ⟨cv :: cvs, ?_, .cons _ _ _ _ e2.strip f2⟩
    simp only [List.mapM_cons, Sem.run_bind, e1, Result.andThen_ok, f1, Sem.run_pure]
  | [], _ :: _, _, h, _ => by simp [resOks] at h
  | _ :: _, [], _, h, _ => by simp [resOks] at h

theorem results_eq (fn : Func) (tmps : Array Value) : Go.results fn tmps = (do
    let vs ← fn.results.toList.mapM (resOf tmps)
    pure (if h : vs.toArray.size = 1 then vs.toArray[0] else .tuple vs.toArray)) := by
  unfold Go.results
  rw [Array.mapM_eq_mapM_toList]
  simp only [map_eq_pure_bind, bind_assoc, pure_bind]
  congr 1

theorem results_sound (hS : Sim fm s g w) (hF : FrameRep fm g s.n nt A a.tmps) {fn : Func} {rs : List ARes} (hok : resOks P rs fn.results.toList = true) {v : AVal} (h : Abs.results A s rs = some v) :
    ∃ cv g', (Go.results fn a.tmps).run P w = .ok cv w ∧ Sim fm s g' w ∧ le s.n g g' ∧ Kept g g' w w ∧ SlotRep fm g' s.n .res v cv := by
  rw [results_eq]
  have tuple : ∀ rs, resOks P rs fn.results.toList = true → rs.length ≠ 1 → (rs.mapM (result A s)).map (fun l => AVal.tup (l.map AVal.strip)) = some v → ∃ cv g', (do
      let vs ← fn.results.toList.mapM (resOf a.tmps)
      pure (if h : vs.toArray.size = 1 then vs.toArray[0] else .tuple vs.toArray) : Sem Value).run P w = .ok cv w ∧ Sim fm s g' w ∧ le s.n g g' ∧ Kept g g' w w ∧ SlotRep fm g' s.n .res v cv := by
    intro rs hok hlen h
    obtain ⟨l, hl, rfl⟩ := map_some' h
    obtain ⟨cvs, e1, e2⟩ := resOf_list hS hF hok hl
    have hne : cvs.length ≠ 1 := by
      rw [← e2.length, List.length_map, ← (mapM_some hl).1]; exact hlen
    refine ⟨.tuple cvs.toArray, g, ?_, hS, le.refl _ _, Kept.refl _ _, Rep.slot (.tup _ _ e2)⟩
    simp only [Sem.run_bind, e1, Result.andThen_ok, Sem.run_pure]
    rw [dif_neg (by simpa using hne)]
  rcases rs with _ | ⟨r, _ | ⟨r2, rs⟩⟩
  · exact tuple [] hok (by simp) h
  rotate_left
  · exact tuple _ hok (by simp) h
  · simp only [Abs.results] at h
    obtain ⟨v0, hv0, hv⟩ := map_some' h
    clear h tuple
    obtain ⟨q, hq⟩ : ∃ q, fn.results.toList = [q] := by
      generalize fn.results.toList = qs at hok
      match qs, hok with
      | [q], _ => exact ⟨q, rfl⟩
      | [], hok => simp [resOks] at hok
      | _ :: _ :: _, hok => simp [resOks] at hok
    rw [hq] at hok ⊢
    simp only [resOks, Bool.and_true] at hok
    obtain ⟨cv, e1, t, e2, e3⟩ := resOf_run hS hF hok hv0
    have hrun : (do
        let vs ← [q].mapM (resOf a.tmps)
        pure (if h : vs.toArray.size = 1 then vs.toArray[0] else .tuple vs.toArray) : Sem Value).run P w = .ok cv w := by
      simp [List.mapM_cons, Sem.run_bind, e1, Result.andThen_ok, Sem.run_pure]
    -- what is not owned is the same for whom ever
    have plain : (∀ cs n z, v0 ≠ .sl cs n (.mine z)) → SlotRep fm g s.n .res v cv := by
      intro hn
      rw [← hv]
      clear hv hv0
      cases v0
      case sl cs n o =>
        cases o with
        | none => exact e2
        | exact => exact e2
        | moved => exact e2
        | loc r c => exact e2.1
        | mine z => exact absurd rfl (hn cs n z)
      all_goals exact e2
    by_cases hm : ∃ cs n z, v0 = .sl cs n (.mine z)
    · obtain ⟨cs, n, z, rfl⟩ := hm
      simp only at hv
      subst hv
      rcases e3 with rfl | ⟨d, rfl, rfl⟩
      · exact ⟨cv, g, hrun, hS, le.refl _ _, Kept.refl _ _, e2⟩
      · obtain rfl : q = .tmp d := by
          cases q <;> simp only [resOk, Bool.false_eq_true, beq_iff_eq] at hok
          rw [hok]
        have hd : A.get d = .sl cs n (.mine z) := by simpa [result] using hv0
        have hcv : cv = a.tmps.getD d undef := by
          simp only [resOf, Sem.run_pure] at e1
          cases e1; rfl
        obtain ⟨g', q1, q2, q3, q4, q5, _⟩ := taken_sound (x := .tmp d) (y := .tmp d) (a := a) hS hF (by simp [okOpd]) (v := .sl cs n (.mine z)) (A' := A.put d (.sl cs n .none)) (by simp [Opd.taken, hd])
        refine ⟨cv, g', hrun, q1, q2, q3, ?_⟩
        rw [hcv]
        exact q5
    · exact ⟨cv, g, hrun, hS, le.refl _ _, Kept.refl _ _, plain (fun cs n z e => hm ⟨cs, n, z, e⟩)⟩

end
end Go.Proofs.YtdhgdpokdhjanaaGreat.Abs
