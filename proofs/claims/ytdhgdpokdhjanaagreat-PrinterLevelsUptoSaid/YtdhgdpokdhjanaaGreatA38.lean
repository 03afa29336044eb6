/- A walk by pieces: code taken apart, a region with one instruction met by hand, objects that end early, blocks of others. -/
import Derived.Test.YtdhgdpokdhjanaaGreatA24
set_option linter.unusedSimpArgs false
set_option linter.unusedVariables false
namespace Go.Proofs.YtdhgdpokdhjanaaGreat.Abs
open Go

section
variable {P : Program} {fm : Nat → Nat} {nt : Nat} {g g' g'' : Gh} {s s' s'' s1 s2 t : ASt} {A A' A'' A1 B : Frame} {a a' a'' a1 : Act} {w w' w'' : World} {call : CallFn} {loop : LoopFn}

theorem okCode_seq {x y : ACode} {c : Code} (h : okCode P fm nt (.seq x y) c = true) : ∃ c1 c2, c = .seq c1 c2 ∧ okCode P fm nt x c1 = true ∧ okCode P fm nt y c2 = true := by
  cases c <;> simp only [okCode, Bool.false_eq_true, Bool.and_eq_true] at h
  exact ⟨_, _, rfl, h.1, h.2⟩
theorem okCode_region {aos : List AOper} {keep : List Nat} {c : Code} (h : okCode P fm nt (.region none aos keep) c = true) : ∃ id ops, c = .region id ops false ∧ okOpers P fm nt ops aos ops.toList = true := by
  cases c <;> try (simp only [okCode, Bool.false_eq_true] at h; done)
  rename_i id ops d
  cases d <;> simp only [okCode, Bool.false_eq_true] at h
  exact ⟨id, ops, rfl, h⟩
theorem okCode_block {i : Nat} {x : ACode} {c : Code} (h : okCode P fm nt (.block i x) c = true) : ∃ c1, c = .block i c1 ∧ okCode P fm nt x c1 = true := by
  cases c <;> simp only [okCode, Bool.false_eq_true, Bool.and_eq_true, beq_iff_eq] at h
  obtain ⟨rfl, h⟩ := h
  exact ⟨_, rfl, h⟩
theorem okCode_loop {x : ACode} {keep : List Nat} {c : Code} (h : okCode P fm nt (.loop x keep) c = true) : ∃ c1, c = .loop c1 ∧ okCode P fm nt x c1 = true := by
  cases c <;> simp only [okCode, Bool.false_eq_true] at h
  exact ⟨_, rfl, h⟩

/-- A value that owns nothing. -/
def AVal.idle : AVal → Bool
  | .sl _ _ .none | .sl _ _ .exact => true
  | .sl _ _ _ => false
  | _ => true
theorem slot_idle {n : Nat} {tg : Tag} {x : AVal} {v : Value} (hx : x.idle = true) (h : SlotRep fm g n tg x v) : Rep fm g n x v := by
  cases x
  case sl cs l o => cases o <;> first | exact h | (simp [AVal.idle] at hx)
  all_goals exact h

theorem FrameRep.plain {n n' : Nat} {tmps : Array Value} (hF : FrameRep fm g n nt A tmps) (hA : ∀ d, (A.get d).idle = true) (hle : le n g g') (hn : n ≤ n') : FrameRep fm g' n' nt A tmps :=
  ⟨hF.1, fun d hd => let ⟨v, h1, h2⟩ := hF.2 d hd; ⟨v, h1, ((slot_idle (hA d) h2).mono hle hn).slot⟩⟩

theorem idle_frame {A : Frame} (h : (A.all fun p => p.2.idle) = true) : ∀ d, (A.get d).idle = true := by
  induction A with
  | nil => intro d; rfl
  | cons p A ih =>
    obtain ⟨k, v⟩ := p
    simp only [List.all_cons, Bool.and_eq_true] at h
    intro d
    show (if k = d then v else Frame.get A d).idle = true
    split
    · exact h.1
    · exact ih h.2 d

/-- A region, one of its instructions met by hand. -/
theorem ops_special {r : Option Nat} {m : Nat} (hcall : CallSound P fm call) {ops : Array Oper} {sp : AOper} {post : List AOper} (hg : sp.guard = none) {v : AVal} {Q : Exit → Act → World → Prop} {a0 : Act} {w0 : World} {g0 : Gh} {s0 : ASt}
    (hidle : ∀ d, (A1.get d).idle = true)
    (hsp : ∀ (o : Oper) a1 w1 g1, okOper P fm nt ops sp o = true → RPost fm nt g0 w0 s0 s1 A1 a0 a1 g1 w1 → ∀ K : Act → World → Prop,
      (∀ cv g2 w2, Sim fm s2 g2 w2 → le s1.n g1 g2 → s1.n ≤ s2.n → Kept g1 g2 w1 w2 → Rep fm g2 s2.n v cv → K (a1.put o.dst cv) w2) → o.wpIn (FW r) m P a1 w1 K Q)
    (hpost : exOps call post (A1.putO sp.dst v) s2 = some (A', s'))
    (hQ : ∀ a' w' g', RPost fm nt g0 w0 s0 s' A' a0 a' g' w' → Q .normal a' w') : ∀ (pre : List AOper) (os : List Oper) (k : Nat) (A : Frame) (s : ASt) (g : Gh) (w : World) (a : Act),
    okOpers P fm nt ops (pre ++ sp :: post) os = true → (∀ j, os[j]? = ops[k + j]?) → RPost fm nt g0 w0 s0 s A a0 a g w → exOps call pre A s = some (A1, s1) →
    wpOpsIn (FW r) m P ops Q (List.range' k (pre ++ sp :: post).length) a w
  | [], [], _, _, _, _, _, _, h, _, _, _ => by simp [okOpers] at h
  | [], o :: os, k, A, s, g, w, a, hok, hops, hR, h => by
    simp only [exOps, Option.some.injEq, Prod.mk.injEq] at h
    obtain ⟨rfl, rfl⟩ := h
    simp only [List.nil_append, okOpers, Bool.and_eq_true] at hok
    simp only [List.nil_append, List.length_cons, List.range'_succ]
    rw [wpOpsIn_cons]
    have hi : ops[k]? = some o := by simpa using (hops 0).symm
    have hok1 := hok.1
    unfold okOper at hok1
    simp only [Bool.and_eq_true, beq_iff_eq] at hok1
    obtain ⟨⟨⟨hd, hdn⟩, hop⟩, hgd⟩ := hok1
    have hw := wanted_run (o := o) rfl hR.frame hgd (by rw [hg]; rfl : wanted A sp.guard = some true)
    simp only [wpOpIn, hi, hw, if_true]
    refine hsp o a w g hok.1 hR _ (fun cv g2 w2 q1 q2 q3 q4 q5 => ?_)
    have hF2 : FrameRep fm g2 s2.n nt A a.tmps := hR.frame.plain hidle q2 q3
    obtain ⟨g3, p1, p2, p3, p4⟩ := put_sound (dst := sp.dst) q1 hF2 q5.slot (fun d hdd => by rw [hdd] at hdn; simpa [dstOk] using hdn)
    rw [← hd] at p4 hpost
    refine exOps_sound hcall post os (k + 1) (A.putO o.dst v) s2 g3 w2 _ A' s' hok.2 (fun j => by rw [show k + 1 + j = k + (j + 1) from by omega]; simpa using hops (j + 1)) p1 p4 hpost (fun a' w' g' hp => ?_)
    refine hQ a' w' g' (hR.trans (RPost.trans (a' := a.put o.dst cv) (A' := A.putO o.dst v) ⟨p1, q2.trans (p2.less q3), q3, q4.trans p3, p4, put_defers _ _ _⟩ hp))
  | x :: pre, [], _, _, _, _, _, _, h, _, _, _ => by simp [okOpers] at h
  | x :: pre, o :: os, k, A, s, g, w, a, hok, hops, hR, h => by
    simp only [List.cons_append, okOpers, Bool.and_eq_true] at hok
    obtain ⟨b, B1, t1, hw, hstep, hrest⟩ := exOps_cons h
    simp only [List.cons_append, List.length_cons, List.range'_succ]
    rw [wpOpsIn_cons]
    have hi : ops[k]? = some o := by simpa using (hops 0).symm
    refine oper_sound hcall hR.sim hR.frame hok.1 hw hstep hi (fun a1 w1 g1 hp => ?_)
    exact ops_special hcall hg hidle hsp hpost hQ pre os (k + 1) B1 t1 g1 w1 a1 hok.2 (fun j => by rw [show k + 1 + j = k + (j + 1) from by omega]; simpa using hops (j + 1)) (hR.trans hp) hrest

theorem region_special {r : Option Nat} {m : Nat} (hcall : CallSound P fm call) {ops : Array Oper} {pre post : List AOper} {sp : AOper} (hok : okOpers P fm nt ops (pre ++ sp :: post) ops.toList = true) (hg : sp.guard = none) {v : AVal}
    {Q : Exit → Act → World → Prop} (hS : Sim fm s g w) (hF : FrameRep fm g s.n nt A a.tmps) (hpre : exOps call pre A s = some (A1, s1)) (hidle : ∀ d, (A1.get d).idle = true)
    (hsp : ∀ (o : Oper) a1 w1 g1, okOper P fm nt ops sp o = true → RPost fm nt g w s s1 A1 a a1 g1 w1 → ∀ K : Act → World → Prop,
      (∀ cv g2 w2, Sim fm s2 g2 w2 → le s1.n g1 g2 → s1.n ≤ s2.n → Kept g1 g2 w1 w2 → Rep fm g2 s2.n v cv → K (a1.put o.dst cv) w2) → o.wpIn (FW r) m P a1 w1 K Q)
    (hpost : exOps call post (A1.putO sp.dst v) s2 = some (A', s')) {keep : List Nat} {id : Nat}
    (hQ : ∀ a' w' g', RPost fm nt g w s s' (A'.keep keep) a a' g' w' → Q .normal a' w') : (Code.region id ops false).wpIn (FW r) m P Q a w := by
  have hlen : (pre ++ sp :: post).length = ops.size := by
    have : ∀ (x : List AOper) (y : List Oper), okOpers P fm nt ops x y = true → x.length = y.length := by
      intro x
      induction x with
      | nil => intro y hy; cases y <;> simp [okOpers] at hy ⊢
      | cons a l ih => intro y hy; cases y <;> simp [okOpers] at hy ⊢; exact ih _ hy.2
    rw [this _ _ hok]; simp
  refine wpIn_region ?_
  have := ops_special (r := r) (m := m) (Q := Q) hcall hg hidle hsp hpost (fun a' w' g' hp => hQ a' w' g' ⟨hp.sim, hp.le, hp.n, hp.kept, hp.frame.keeps keep, hp.defers⟩) pre ops.toList 0 A s g w a hok (fun j => by simp)
    ⟨hS, le.refl _ _, Nat.le_refl _, Kept.refl _ _, hF, rfl⟩ hpre
  rw [hlen, ← List.range_eq_range'] at this
  exact this

/-- Objects end. -/
theorem freeze_post (hp : RPost fm nt g w s s' A' a a' g' w') {ds : List Nat} (hB : keepF s.n s' A' ds = some B) : RPost fm nt g w s (s'.trunc s.n) B a a' (g'.frozen s.n w') w' :=
  ⟨hp.sim.frozen hp.n, hp.le.trans (frozen_le hp.sim _), Nat.le_refl _, hp.kept.trans (frozen_kept _), keepF_sound hp.sim hp.n hp.frame hB, hp.defers⟩

/-! ### Blocks of others -/

structure Foreign (g : Gh) (b : Nat) : Prop where
  own : g.own b = .other false
  st : g.st b = []
  mst : g.mst b = none

theorem Foreign.kept {b : Nat} (h : Foreign g b) (hk : Kept g g' w w') : Foreign g' b ∧ w'.heap[b]? = w.heap[b]? := by
  obtain ⟨⟨f1, f2, f3⟩, f4⟩ := hk.blk b _ h.own
  exact ⟨⟨by rw [f1, h.own], by rw [f2, h.st], by rw [hk.mst b _ h.own, h.mst]⟩, f4⟩

theorem Sim.others {b : Nat} (hS : Sim fm s g w) (hb : Foreign g b) (hw : ∀ k, k ≠ b → w'.heap[k]? = w.heap[k]?) (hz : w'.heap.size = w.heap.size) : Sim fm s g w' := by
  refine hS.step (· = b) hS.size (le.refl _ _) (Nat.le_refl _) (fun k hk => ⟨⟨rfl, rfl, rfl⟩, rfl, hw k hk⟩) (fun k h1 h2 => by omega) (by omega) ?_ ?_ ?_ ?_ ?_ (fun k hk q e => by subst hk; rw [hb.own] at e; cases e)
  · intro r o' hr
    left
    refine ⟨hr, rfl, fun k hk e => ?_, fun _ => rfl, fun k c hk e => ?_⟩
    · subst e
      have := (hS.objn r k hk).2.1
      rw [hb.own] at this
      cases this
    · subst e
      rw [hb.own] at hk
      cases hk
  · intro r k hk
    left
    refine ⟨hk, fun e => ?_⟩
    subst e
    have := (hS.objn r k hk).2.1
    rw [hb.own] at this
    cases this
  · intro k hk h
    subst hk
    rcases h with h | h
    · exact absurd hb.st h
    · rw [hb.own] at h; simp [Tag.held] at h
  · intro k hk ks us h
    subst hk
    rw [hb.mst] at h
    cases h
  · intro k hk h
    subst hk
    have := (hS.fresh k (by omega)).1
    rw [hb.own] at this
    cases this

/-- A new block of another's. -/
theorem Sim.foreign (hS : Sim fm s g w) (o : Obj) : Sim fm s (g.tag w.heap.size (.other false)) (w.alloc o) ∧ Foreign (g.tag w.heap.size (.other false)) w.heap.size ∧ Kept g (g.tag w.heap.size (.other false)) w (w.alloc o) := by
  obtain ⟨f1, f2, f3⟩ := hS.fresh w.heap.size (Nat.le_refl _)
  have hne : ∀ k t, g.own k = t → t ≠ .free → k ≠ w.heap.size := fun k t hk ht e => ht (by rw [← hk, e, f1])
  have hown : ∀ k, k ≠ w.heap.size → (g.tag w.heap.size (.other false)).own k = g.own k := fun k hk => by simp [Gh.tag, hk]
  refine ⟨?_, ⟨by simp [Gh.tag], f2, f3⟩, ⟨fun k x hk => ⟨⟨hown k (hne k _ hk (by simp)), rfl, rfl⟩, by rw [alloc_get, if_neg (hne k _ hk (by simp))]⟩, rfl, rfl, fun _ _ _ => rfl⟩⟩
  refine hS.step (· = w.heap.size) hS.size (tag_le _ _ _) (Nat.le_refl _) (fun k hk => ⟨⟨hown k hk, rfl, rfl⟩, rfl, by rw [alloc_get, if_neg hk]⟩) (fun k h1 h2 => by rw [World.size_alloc] at h2; omega) (by rw [World.size_alloc]; omega) ?_ ?_ ?_ ?_ ?_
    (fun k hk q e => by subst hk; rw [f1] at e; cases e)
  · intro r o' hr
    left
    refine ⟨hr, rfl, fun k hk e => ?_, fun _ => rfl, fun k c hk => hne k _ hk (by simp)⟩
    obtain ⟨_, _, h3, _⟩ := hS.objn r k hk
    omega
  · intro r k hk
    left
    obtain ⟨_, _, h3, _⟩ := hS.objn r k hk
    exact ⟨hk, by omega⟩
  · intro k hk h
    subst hk
    rcases h with h | h
    · exact absurd f2 h
    · simp [Gh.tag, Tag.held] at h
  · intro k hk ks us h
    subst hk
    have h : g.mst w.heap.size = some (ks, us) := h
    rw [f3] at h
    cases h
  · intro k hk h
    subst hk
    rw [World.size_alloc] at h
    omega

end
end Go.Proofs.YtdhgdpokdhjanaaGreat.Abs
