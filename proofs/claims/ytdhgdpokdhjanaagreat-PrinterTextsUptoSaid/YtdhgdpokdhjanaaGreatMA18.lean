/- Objects end; what outlives them is steady from then on. -/
import Derived.Test.YtdhgdpokdhjanaaGreatA17
import Derived.LoopNIn
set_option linter.unusedSimpArgs false
set_option linter.unusedVariables false
namespace Go.Proofs.YtdhgdpokdhjanaaGreat.Abs
open Go

section
variable {fm : Nat → Nat} {g g' : Gh} {s s' : ASt} {n n' m nt : Nat} {A A1 A' : Frame} {a : Act} {w w' : World}

/-- Is the block that of an object that ends? -/
def Gh.ends (g : Gh) (m b : Nat) : Bool := match g.own b with
  | .obj r => decide (m ≤ r)
  | _ => false

def cellsAt (w : World) (b : Nat) : List Value := match w.heap[b]? with
  | some (.cells c _ _) => c.toList
  | _ => []
def mapAt (w : World) (b : Nat) : Option (List Value × List Value) := match w.heap[b]? with
  | some (.map es _) => some (es.toList.map (·.key), es.toList.map (·.val))
  | _ => none

def Gh.frozen (g : Gh) (m : Nat) (w : World) : Gh where
  obj := fun r => if r < m then g.obj r else none
  own := fun b => if g.ends m b then .free else g.own b
  st := fun b => if g.ends m b then cellsAt w b else g.st b
  mst := fun b => if g.ends m b then mapAt w b else g.mst b
  vec := g.vec
  sz := fun b => if g.ends m b then (cellsAt w b).length else g.sz b

theorem getL_drop : ∀ (k : Nat) (os : List AObj) (n r : Nat), r + k < n → getL (os.drop k) (n - k) r = getL os n r
  | 0, _, _, _, _ => by simp
  | k + 1, [], n, r, _ => by simp [getL]
  | k + 1, o :: os, n + 1, r, h => by
    simp only [List.drop_succ_cons]
    rw [show n + 1 - (k + 1) = n - k from by omega, getL_drop k os n r (by omega)]
    simp only [getL]
    rw [if_neg (by omega)]
  | k + 1, o :: os, 0, r, h => by omega

theorem get_trunc {r : Nat} (h : r < m) (hm : m ≤ s.n) : (s.trunc m).get r = s.get r := by
  unfold ASt.trunc ASt.get
  have := getL_drop (s.n - m) s.os s.n r (by omega)
  rw [show s.n - (s.n - m) = m from by omega] at this
  exact this

theorem frozen_le (hS : Sim fm s g w) (m : Nat) : le m g (g.frozen m w) := by
  refine ⟨fun r hr b h => by simp [Gh.frozen, hr, h], fun b => ?_, fun b x h => ?_, fun _ _ _ h k e => ⟨h, k, e, Nat.le_refl _, fun _ => rfl⟩⟩
  · show g.st b <+: if g.ends m b then cellsAt w b else g.st b
    split
    · by_cases h : g.st b = []
      · rw [h]; exact List.nil_prefix
      · obtain ⟨c, elem, fr, h1, h2, _⟩ := hS.st b (.inl h)
        simp only [cellsAt, h1]
        exact h2
    · exact List.prefix_refl _
  · show (if g.ends m b then mapAt w b else g.mst b) = some x
    split
    · obtain ⟨ks, vs⟩ := x
      obtain ⟨es, clock, h1, h2, h3⟩ := hS.mst b ks vs h
      simp [mapAt, h1, h2, h3]
    · exact h

theorem ends_own {b : Nat} (h : ∀ r, m ≤ r → g.own b ≠ .obj r) : g.ends m b = false := by
  unfold Gh.ends
  split
  · rename_i r hr
    simp only [decide_eq_false_iff_not]
    exact fun hm => h r hm hr
  · rfl

theorem frozen_fix {b : Nat} (h : ∀ r, m ≤ r → g.own b ≠ .obj r) : Fix g (g.frozen m w) b := by
  have := ends_own h
  exact ⟨by simp [Gh.frozen, this], by simp [Gh.frozen, this], by simp [Gh.frozen, this]⟩

theorem Sim.frozen (hS : Sim fm s g w) (hm : m ≤ s.n) : Sim fm (s.trunc m) (g.frozen m w) w where
  size := by
    simp only [ASt.trunc, List.length_drop, hS.size]
    omega
  objs := by
    intro r o hr b hb
    have hlt : r < m := ASt.get_lt hr
    rw [get_trunc hlt hm] at hr
    simp only [Gh.frozen, hlt, if_true] at hb
    exact (hS.objs r o hr b hb).mono ((frozen_le hS m).less (by omega)) (fun x c hx => frozen_fix (fun q _ e => by rw [hx] at e; cases e)) (fun _ => rfl) rfl (fun x hx => ⟨by
      have : g.ends m x = false := by simp [Gh.ends, hx]
      simp [Gh.frozen, this, hx], by
      have : g.ends m x = false := by simp [Gh.ends, hx]
      simp [Gh.frozen, this], rfl⟩)
  objn := by
    intro r b hb
    simp only [Gh.frozen] at hb
    split at hb
    · rename_i hlt
      obtain ⟨e1, e2, e3, e4, e5⟩ := hS.objn r b hb
      have hx : g.ends m b = false := ends_own (fun q hq e => by rw [e2] at e; cases e; omega)
      exact ⟨hlt, by simp [Gh.frozen, hx, e2], e3, by simp [Gh.frozen, hx, e4], by simp [Gh.frozen, hx, e5]⟩
    · cases hb
  st := by
    intro b hb
    by_cases hx : g.ends m b = true
    · simp only [Gh.frozen, hx, if_true] at hb ⊢
      rcases hb with hb | hb
      · unfold cellsAt at hb ⊢
        split at hb
        · rename_i c elem fr hw
          exact ⟨c, elem, fr, hw, List.prefix_refl _, by simp, fun h => by simp [Tag.held] at h⟩
        · exact absurd rfl hb
      · simp [Tag.held] at hb
    · simp only [Gh.frozen, hx] at hb ⊢
      exact hS.st b hb
  mst := by
    intro b ks vs hb
    by_cases hx : g.ends m b = true
    · simp only [Gh.frozen, hx, if_true] at hb
      unfold mapAt at hb
      split at hb
      · rename_i es clock hw
        cases hb
        exact ⟨es, clock, hw, rfl, rfl⟩
      · cases hb
    · simp only [Gh.frozen, hx] at hb
      exact hS.mst b ks vs hb
  fresh := by
    intro b hb
    obtain ⟨e1, e2, e3⟩ := hS.fresh b hb
    have hx : g.ends m b = false := ends_own (fun q hq e => by rw [e1] at e; cases e)
    exact ⟨by simp [Gh.frozen, hx, e1], by simp [Gh.frozen, hx, e2], by simp [Gh.frozen, hx, e3]⟩

theorem frozen_kept (m : Nat) : Kept g (g.frozen m w) w w := ⟨fun b x hb => ⟨frozen_fix (fun r _ e => by rw [hb] at e; cases e), rfl⟩, rfl, rfl, fun b x hb => by
  have : g.ends m b = false := by simp [Gh.ends, hb]
  simp [Gh.frozen, this]⟩

theorem mapM_some {α β : Type} {f : α → Option β} : ∀ {l : List α} {r : List β}, l.mapM f = some r → l.length = r.length ∧ ∀ (i : Nat) (x : α), l[i]? = some x → ∃ y, r[i]? = some y ∧ f x = some y
  | [], r, h => by
    simp at h
    subst h
    exact ⟨rfl, fun i x hx => by simp at hx⟩
  | a :: l, r, h => by
    simp only [List.mapM_cons] at h
    obtain ⟨b, hb, h⟩ := bind_some' h
    obtain ⟨t, ht, h⟩ := bind_some' h
    cases h
    obtain ⟨h1, h2⟩ := mapM_some ht
    refine ⟨by simp [h1], fun i x hx => ?_⟩
    cases i with
    | zero => simp at hx; subst hx; exact ⟨b, rfl, hb⟩
    | succ i => simpa using h2 i x (by simpa using hx)

theorem RepL.of_get {k : Nat} : ∀ {cs : List AVal} {vs : List Value}, cs.length = vs.length → (∀ (i : Nat) (a : AVal) (v : Value), cs[i]? = some a → vs[i]? = some v → Rep fm g k a v) → RepL fm g k cs vs
  | [], [], _, _ => .nil
  | a :: cs, v :: vs, h, hr => .cons _ _ _ _ (hr 0 a v rfl rfl) (RepL.of_get (by simpa using h) (fun i b u h1 h2 => hr (i + 1) b u (by simpa using h1) (by simpa using h2)))
  | [], _ :: _, h, _ => by simp at h
  | _ :: _, [], h, _ => by simp at h

theorem fz_sound (hS : Sim fm s g w) (hm : m ≤ s.n) : ∀ (k : Nat) (x y : AVal) (v : Value), Rep fm g s.n x v → fz m s k x = some y → Rep fm (g.frozen m w) m y v
  | 0, _, _, _, _, h => by simp [fz] at h
  | k + 1, x, y, v, hr, h => by
    have ih := fz_sound hS hm k
    have list : ∀ (cs l : List AVal) (vs : List Value), RepL fm g s.n cs vs → cs.mapM (fz m s k) = some l → RepL fm (g.frozen m w) m l vs := by
      intro cs l vs hR hl
      obtain ⟨h1, h2⟩ := mapM_some hl
      refine RepL.of_get (by rw [← h1]; exact hR.length) (fun i a u ha hu => ?_)
      have hlt : i < cs.length := by rw [h1]; exact (List.getElem?_eq_some_iff.1 ha).1
      obtain ⟨z, hz, hzz⟩ := h2 i cs[i] (by simp [hlt])
      rw [ha] at hz
      cases hz
      obtain ⟨u', hu', hR'⟩ := hR.get i cs[i] (by simp [hlt])
      rw [hu] at hu'
      cases hu'
      exact ih _ _ _ hR' hzz
    have stle := fun b => (frozen_le hS m).st b
    unfold fz at h
    split at h
    · rename_i hu
      cases h
      exact (hr.lower hu).mono (frozen_le hS m) (Nat.le_refl _)
    · rename_i hu
      cases x <;> simp only at h
      case ref r off =>
        split at h
        · rename_i cs hg
          obtain ⟨l, hl, rfl⟩ := map_some' h
          cases hr with
          | ref _ _ b hlt hb =>
          have hge : m ≤ r := by simpa [AVal.under] using hu
          obtain ⟨c, elem, hw, hsz, hcells⟩ := hS.objs r _ hg b hb
          obtain ⟨o1, o2, o3, o4, o5⟩ := hS.objn r b hb
          have hx : g.ends m b = true := by simp [Gh.ends, o2, hge]
          obtain ⟨h1, h2⟩ := mapM_some hl
          have hst : (g.frozen m w).st b = c.toList := by simp [Gh.frozen, hx, cellsAt, hw]
          have := Rep.ipt (fm := fm) (g := g.frozen m w) (n := m) l off b 0 c.toList (RepL.of_get (by rw [← h1]; simp [hsz]) (fun i a u ha hu => by
            have hlt : i < cs.length := by rw [h1]; exact (List.getElem?_eq_some_iff.1 ha).1
            obtain ⟨z, hz, hzz⟩ := h2 i cs[i] (by simp [hlt])
            rw [ha] at hz
            cases hz
            obtain ⟨u', hu', hR'⟩ := hcells i cs[i] (by simp [hlt])
            have : c[i]? = some u := by simpa using hu
            rw [this] at hu'
            cases hu'
            exact ih _ _ _ (hR'.strip (by omega)) hzz)) (by rw [hst]; simp)
          simpa using this
        · cases h
      case ipt cs off =>
        obtain ⟨l, hl, rfl⟩ := map_some' h
        cases hr with
        | ipt _ _ b base vs hR hp => exact .ipt _ _ _ _ _ (list _ _ _ hR hl) (prefix_drop (stle b) hp)
      case sl cs len o =>
        obtain ⟨l, hl, rfl⟩ := map_some' h
        cases hr with
        | sl0 ad cap =>
          simp at hl
          subst hl
          exact .sl0 _ _
        | sl _ _ _ b base cap vs ho hc hR hp =>
        rcases ho with rfl | ⟨rfl, rfl⟩
        · exact .sl _ _ _ _ _ _ _ (.inl rfl) hc (list _ _ _ hR hl) (prefix_drop (stle b) hp)
        · exact .sl _ _ _ _ _ _ _ (.inr ⟨rfl, rfl⟩) hc (list _ _ _ hR hl) (prefix_drop (stle b) hp)
      case map r =>
        split at h
        · rename_i ks vs hg
          obtain ⟨ks', hk', h⟩ := bind_some' h
          obtain ⟨vs', hv', h⟩ := bind_some' h
          cases h
          cases hr with
          | map _ b hlt hb =>
          have hge : m ≤ r := by simpa [AVal.under] using hu
          obtain ⟨es, clock, h1, h2, h3⟩ := hS.objs r _ hg b hb
          obtain ⟨o1, o2, o3, o4, o5⟩ := hS.objn r b hb
          have hx : g.ends m b = true := by simp [Gh.ends, o2, hge]
          exact .imap _ _ b _ _ (by simp only [Gh.frozen, hx, if_true, mapAt, h1]) (list _ _ _ (h2.mono (le.refl _ _) (by omega)) hk') (list _ _ _ (h3.mono (le.refl _ _) (by omega)) hv')
        · cases h
      case imap ks vs =>
        obtain ⟨ks', hk', h⟩ := bind_some' h
        obtain ⟨vs', hv', h⟩ := bind_some' h
        cases h
        cases hr with
        | imap _ _ b cks cvs hb hk hv => exact .imap _ _ b _ _ ((frozen_le hS m).mst b _ hb) (list _ _ _ hk hk') (list _ _ _ hv hv')
        | imapU _ _ ks0 vs0 b cks cvs hb hk hv hf hq => exact absurd (by simp [AVal.under, (hq m).1, (hq m).2.1]) hu
      case fn f xs ys =>
        obtain ⟨ks', hk', h⟩ := bind_some' h
        obtain ⟨vs', hv', h⟩ := bind_some' h
        cases h
        cases hr with
        | fn _ _ _ us vs h1 h2 hf => exact .fn _ _ _ _ _ (list _ _ _ h1 hk') (list _ _ _ h2 hv') hf
        | yld _ l hf => exact absurd rfl hu
      case agg cs =>
        obtain ⟨l, hl, rfl⟩ := map_some' h
        cases hr with
        | agg _ vs hR => exact .agg _ _ (list _ _ _ hR hl)
      case tup cs =>
        obtain ⟨l, hl, rfl⟩ := map_some' h
        cases hr with
        | tup _ vs hR => exact .tup _ _ (list _ _ _ hR hl)
      all_goals (simp [AVal.under] at hu)

/-- The same of what a slot holds. -/
theorem fz_slot (hS : Sim fm s g w) (hm : m ≤ s.n) {k : Nat} {x y : AVal} {v : Value} {t : Tag} (ht : ∀ r, t ≠ .obj r) (hr : SlotRep fm g s.n t x v) (h : fz m s k x = some y) : SlotRep fm (g.frozen m w) m t y v := by
  have fixt : ∀ b, g.own b = t → Fix g (g.frozen m w) b := fun b hb => frozen_fix (fun r _ e => ht r (by rw [← hb, e]))
  have plain : ∀ z, x = z → Rep fm g s.n x v → (∀ a b c, x ≠ .sl a b c ∨ (c = .none ∨ c = .exact)) → SlotRep fm (g.frozen m w) m t y v := fun z _ hr' _ => (fz_sound hS hm k x y v hr' h).slot
  cases x
  case sl cs len o =>
    cases o with
    | none => exact (fz_sound hS hm k _ y v hr h).slot
    | exact => exact (fz_sound hS hm k _ y v hr h).slot
    | moved =>
      cases k with
      | zero => simp [fz] at h
      | succ k =>
        have hr' : Rep fm g s.n (.sl cs len .none) v := hr
        unfold fz at h
        split at h
        · rename_i hu
          cases h
          exact (hr'.lower (by simpa [AVal.under, Own.under] using hu)).mono (frozen_le hS m) (Nat.le_refl _)
        · rename_i hu
          obtain ⟨l, hl, rfl⟩ := map_some' h
          have : fz m s (k + 1) (.sl cs len .none) = some (.sl l len .none) := by
            unfold fz
            rw [if_neg (by simpa [AVal.under, Own.under] using hu)]
            simp only [hl, Option.map_some]
          exact fz_sound hS hm _ _ _ _ hr' this
    | mine z =>
      obtain ⟨b, base, cap, vs, e1, e2, e3, e4, e5, e6, e7⟩ := hr
      obtain ⟨f1, f2, f3⟩ := fixt b e7
      -- the cells
      have main : ∀ l : List AVal, l.length = cs.length → RepL fm (g.frozen m w) m l vs → y = .sl l len (.mine z) → SlotRep fm (g.frozen m w) m t y v := by
        intro l hl hR hy
        subst hy
        exact ⟨b, base, cap, vs, e1, e2, hR, by rw [f2]; exact e4, by rw [f2, hl]; exact e5, by rw [f3]; exact e6, by rw [f1]; exact e7⟩
      cases k with
      | zero => simp [fz] at h
      | succ k =>
        unfold fz at h
        split at h
        · rename_i hu
          cases h
          exact main cs rfl ((e3.lower (by simpa [AVal.under, Own.under] using hu)).mono (frozen_le hS m) (Nat.le_refl _)) rfl
        · rename_i hu
          obtain ⟨l, hl, rfl⟩ := map_some' h
          have hq : fz m s (k + 1) (.agg cs) = some (.agg l) := by
            unfold fz
            rw [if_neg (by simpa [AVal.under, Own.under] using hu)]
            simp only [hl, Option.map_some]
          have := fz_sound hS hm _ _ _ _ (Rep.agg cs vs e3) hq
          generalize hvv : Value.agg vs.toArray = av at this
          cases this with
          | agg _ us hR =>
          have : us = vs := by
            have := congrArg Value.cells hvv
            simp [Value.cells] at this
            exact this.symm
          subst this
          exact main l (mapM_some hl).1.symm hR rfl
    | loc r c =>
      obtain ⟨h1, h2, ⟨b, hb⟩, x0, k0, h3, h4, h5⟩ := hr
      cases k with
      | zero => simp [fz] at h
      | succ k =>
        unfold fz at h
        split at h
        · rename_i hu
          cases h
          simp only [AVal.under, Own.under, Bool.and_eq_true, decide_eq_true_eq] at hu
          exact ⟨(h1.lower (by simp [AVal.under, Own.under, hu.1])).mono (frozen_le hS m) (Nat.le_refl _), hu.2, ⟨b, by simp [Gh.frozen, hu.2, hb]⟩, x0, k0, h3, h4, h5⟩
        · rename_i hu
          obtain ⟨l, hl, rfl⟩ := map_some' h
          by_cases hu2 : (AVal.sl cs len .none).under m = true
          · -- only the mark is too new
            have hcs : underL m cs = true := by simpa [AVal.under, Own.under] using hu2
            cases h1 with
            | sl0 ad cap =>
              simp at hl
              subst hl
              exact Rep.sl0 _ _
            | sl _ _ _ b2 base cap vs ho hc hR hp =>
            have hq : fz m s (k + 1) (.agg cs) = some (.agg cs) := by
              unfold fz
              rw [if_pos (by simpa [AVal.under] using hcs)]
            -- the cells are frozen one by one all the same
            have hR2 : RepL fm (g.frozen m w) m l vs := by
              obtain ⟨q1, q2⟩ := mapM_some hl
              refine RepL.of_get (by rw [← q1]; exact hR.length) (fun i a u ha hu => ?_)
              have hlt : i < cs.length := by rw [q1]; exact (List.getElem?_eq_some_iff.1 ha).1
              obtain ⟨z, hz, hzz⟩ := q2 i cs[i] (by simp [hlt])
              rw [ha] at hz
              cases hz
              obtain ⟨u', hu', hR'⟩ := hR.get i cs[i] (by simp [hlt])
              rw [hu] at hu'
              cases hu'
              exact fz_sound hS hm k _ _ _ hR' hzz
            exact Rep.sl _ _ _ _ _ _ _ (.inl rfl) hc hR2 (prefix_drop ((frozen_le hS m).st b2) hp)
          · have : fz m s (k + 1) (.sl cs len .none) = some (.sl l len .none) := by
              unfold fz
              rw [if_neg hu2]
              simp only [hl, Option.map_some]
            exact fz_sound hS hm _ _ _ _ h1 this
  all_goals exact (fz_sound hS hm k _ y v hr h).slot

end
end Go.Proofs.YtdhgdpokdhjanaaGreat.Abs
/- The instructions of a region, one behind the other. -/
namespace Go.Proofs.YtdhgdpokdhjanaaGreat.Abs
open Go

section
variable (P : Program) (fm : Nat → Nat) (nt : Nat)

def okGuard (ops : Array Oper) : Option (Nat × Bool) → Option (Nat × Bool) → Bool
  | none, none => true
  | some (d, x), some (j, y) => x == y && (match ops[j]? with
    | some o => o.dst == some d
    | none => false)
  | _, _ => false
def dstOk (nt : Nat) : Option Nat → Bool
  | some d => decide (d < nt)
  | none => true
def okOper (ops : Array Oper) (ao : AOper) (o : Oper) : Bool := o.dst == ao.dst && dstOk nt ao.dst && okOp P fm ao.op o.op && okGuard ops ao.guard o.guard
def okOpers (ops : Array Oper) : List AOper → List Oper → Bool
  | [], [] => true
  | x :: l, y :: m => okOper P fm nt ops x y && okOpers ops l m
  | _, _ => false
end

structure RPost (fm : Nat → Nat) (nt : Nat) (g : Gh) (w : World) (s s' : ASt) (A' : Frame) (a a' : Act) (g' : Gh) (w' : World) : Prop where
  sim : Sim fm s' g' w'
  le : le s.n g g'
  n : s.n ≤ s'.n
  kept : Kept g g' w w'
  frame : FrameRep fm g' s'.n nt A' a'.tmps
  defers : a'.defers = a.defers

section
variable {P : Program} {fm : Nat → Nat} {nt : Nat} {g g' g'' : Gh} {s s' s'' : ASt} {A A' A'' : Frame} {a a' a'' : Act} {w w' w'' : World}

theorem RPost.trans (h : RPost fm nt g w s s' A' a a' g' w') (h' : RPost fm nt g' w' s' s'' A'' a' a'' g'' w'') : RPost fm nt g w s s'' A'' a a'' g'' w'' :=
  ⟨h'.sim, h.le.trans (h'.le.less h.n), Nat.le_trans h.n h'.n, h.kept.trans h'.kept, h'.frame, h'.defers.trans h.defers⟩

theorem put_defers (a : Act) (d : Option Nat) (v : Value) : (a.put d v).defers = a.defers := by cases d <;> rfl

theorem wanted_run {ops : Array Oper} {r1 r2 : Option (Nat × Bool)} {n : Nat} {o : Oper} (ho : o.guard = r2) (hF : FrameRep fm g n nt A a.tmps) (hok : okGuard ops r1 r2 = true) {b : Bool}
    (h : wanted A r1 = some b) : Region.wanted o (yielded ops a.tmps) = b := by
  unfold Region.wanted
  rw [ho]
  cases r1 with
  | none =>
    cases r2 with
    | none => simp only [wanted, Option.some.injEq] at h; exact h
    | some x => simp [okGuard] at hok
  | some x =>
    obtain ⟨d, wt⟩ := x
    cases r2 with
    | none => simp [okGuard] at hok
    | some y =>
      obtain ⟨j, wt'⟩ := y
      simp only [okGuard, Bool.and_eq_true, beq_iff_eq] at hok
      obtain ⟨rfl, hj⟩ := hok
      simp only [wanted] at h
      have hdst : ∃ p, ops[j]? = some p ∧ p.dst = some d := by
        split at hj
        · rename_i p hp
          exact ⟨p, hp, by simpa using hj⟩
        · cases hj
      obtain ⟨p, hp, hj⟩ := hdst
      split at h
      · rename_i c hc
        cases h
        obtain ⟨v, h1, h2⟩ := hF.2 d (by rw [hc]; simp)
        rw [hc] at h2
        have hv : v = .bool c := Rep.bool_inv h2
        subst hv
        have : yielded ops a.tmps j = some c := by simp [yielded, hp, hj, h1]
        simp only [this]
        cases c <;> cases wt <;> rfl
      · rename_i vs hc
        cases h
        obtain ⟨v, h1, h2⟩ := hF.2 d (by rw [hc]; simp)
        rw [hc] at h2
        have h2 : Rep fm g n (.tup vs) v := h2
        cases h2
        have : yielded ops a.tmps j = none := by simp [yielded, hp, hj, h1]
        simp only [this]
        rfl
      · cases h

/-- One instruction, its guard and its slot. -/
theorem oper_sound {call : CallFn} {r : Option Nat} {m : Nat} (hcall : CallSound P fm call) {ops : Array Oper} {ao : AOper} {o : Oper} (hS : Sim fm s g w) (hF : FrameRep fm g s.n nt A a.tmps)
    (hok : okOper P fm nt ops ao o = true) {A' : Frame} {b : Bool} (hw : wanted A ao.guard = some b)
    (h : if b then ∃ v A1, aop call ao.op A s = some (v, A1, s') ∧ A' = A1.putO ao.dst v else A' = A.putO ao.dst (.tup []) ∧ s' = s) {i : Nat} (hi : ops[i]? = some o)
    {K : Act → World → Prop} {Q : Exit → Act → World → Prop} (hK : ∀ a' w' g', RPost fm nt g w s s' A' a a' g' w' → K a' w') : wpOpIn (FW r) m P ops Q i K a w := by
  unfold okOper at hok
  simp only [Bool.and_eq_true, beq_iff_eq] at hok
  obtain ⟨⟨⟨hd, hdn⟩, hop⟩, hg⟩ := hok
  have hdn' : ∀ d, ao.dst = some d → d < nt := fun d hd => by
    rw [hd] at hdn
    simpa [dstOk] using hdn
  have hwr := wanted_run (o := o) rfl hF hg hw
  simp only [wpOpIn, hi, hwr]
  cases b with
  | true =>
    simp only [if_true] at h ⊢
    obtain ⟨v, A1, h1, rfl⟩ := h
    refine op_sound hcall hS hF hop h1 (fun cv w' g' hp => ?_)
    obtain ⟨g2, q1, q2, q3, q4⟩ := put_sound (dst := ao.dst) hp.sim hp.frame hp.res hdn'
    rw [hd]
    exact hK _ _ g2 ⟨q1, hp.le.trans (q2.less hp.n), hp.n, hp.kept.trans q3, q4, put_defers _ _ _⟩
  | false =>
    simp only [Bool.false_eq_true, if_false] at h ⊢
    obtain ⟨rfl, rfl⟩ := h
    refine ⟨fun _ _ => trivial, ?_⟩
    obtain ⟨g2, q1, q2, q3, q4⟩ := put_sound (dst := ao.dst) (v := .tup []) (cv := undef) hS hF (Rep.tup [] [] .nil) hdn'
    rw [hd]
    exact hK _ _ g2 ⟨q1, q2, Nat.le_refl _, q3, q4, put_defers _ _ _⟩

theorem exOps_cons {call : CallFn} {o : AOper} {r : List AOper} {A : Frame} {s : ASt} {R : Frame × ASt} (h : exOps call (o :: r) A s = some R) :
    ∃ b A1 s1, wanted A o.guard = some b ∧ (if b then ∃ v A2, aop call o.op A s = some (v, A2, s1) ∧ A1 = A2.putO o.dst v else A1 = A.putO o.dst (.tup []) ∧ s1 = s) ∧ exOps call r A1 s1 = some R := by
  simp only [exOps] at h
  split at h
  · rename_i hw
    obtain ⟨⟨v, A2, s2⟩, h1, h2⟩ := bind_some' h
    exact ⟨true, _, s2, hw, ⟨v, A2, h1, rfl⟩, h2⟩
  · rename_i hw
    exact ⟨false, _, s, hw, ⟨rfl, rfl⟩, h⟩
  · cases h

theorem exOps_sound {call : CallFn} {r : Option Nat} {m : Nat} (hcall : CallSound P fm call) {ops : Array Oper} {Q : Exit → Act → World → Prop} : ∀ (aos : List AOper) (os : List Oper) (k : Nat) (A : Frame) (s : ASt) (g : Gh) (w : World) (a : Act) (A' : Frame) (s' : ASt),
    okOpers P fm nt ops aos os = true → (∀ j, os[j]? = ops[k + j]?) → Sim fm s g w → FrameRep fm g s.n nt A a.tmps → exOps call aos A s = some (A', s') →
    (∀ a' w' g', RPost fm nt g w s s' A' a a' g' w' → Q .normal a' w') → wpOpsIn (FW r) m P ops Q (List.range' k aos.length) a w
  | [], _, k, A, s, g, w, a, A', s', _, _, hS, hF, h, hQ => by
    simp only [exOps, Option.some.injEq, Prod.mk.injEq] at h
    obtain ⟨rfl, rfl⟩ := h
    exact hQ a w g ⟨hS, le.refl _ _, Nat.le_refl _, Kept.refl _ _, hF, rfl⟩
  | ao :: aos, [], _, _, _, _, _, _, _, _, h, _, _, _, _, _ => by simp [okOpers] at h
  | ao :: aos, o :: os, k, A, s, g, w, a, A', s', hok, hops, hS, hF, h, hQ => by
    simp only [okOpers, Bool.and_eq_true] at hok
    obtain ⟨b, A1, s1, hw, hstep, hrest⟩ := exOps_cons h
    simp only [List.length_cons, List.range'_succ]
    rw [wpOpsIn_cons]
    have hi : ops[k]? = some o := by simpa using (hops 0).symm
    refine oper_sound hcall hS hF hok.1 hw hstep hi (fun a1 w1 g1 hp => ?_)
    exact exOps_sound hcall aos os (k + 1) A1 s1 g1 w1 a1 A' s' hok.2 (fun j => by rw [show k + 1 + j = k + (j + 1) from by omega]; simpa using hops (j + 1)) hp.sim hp.frame hrest
      (fun a' w' g' hp' => hQ a' w' g' (hp.trans hp'))

theorem get_keep (A : Frame) (d : Nat) : ∀ ds : List Nat, (A.keep ds).get d = if d ∈ ds then A.get d else .undef
  | [] => rfl
  | k :: ds => by
    show (if k = d then A.get k else Frame.get (Frame.keep A ds) d) = _
    rw [get_keep A d ds]
    by_cases h : k = d
    · subst h; simp
    · simp only [if_neg h, List.mem_cons, Ne.symm h, false_or]

theorem FrameRep.sub {n : Nat} {B : Frame} {tmps : Array Value} (h : FrameRep fm g n nt A tmps) (hB : ∀ d, B.get d = .undef ∨ B.get d = A.get d) : FrameRep fm g n nt B tmps :=
  ⟨h.1, fun d hd => by
    rcases hB d with e | e
    · exact absurd e hd
    · rw [e] at hd ⊢; exact h.2 d hd⟩

theorem FrameRep.keeps {n : Nat} {tmps : Array Value} (ds : List Nat) (h : FrameRep fm g n nt A tmps) : FrameRep fm g n nt (A.keep ds) tmps :=
  h.sub (fun d => by rw [get_keep]; split <;> simp)

theorem region_sound {call : CallFn} {r : Option Nat} {m : Nat} (hcall : CallSound P fm call) {ops : Array Oper} {aos : List AOper} {id : Nat} {keep : List Nat} (hok : okOpers P fm nt ops aos ops.toList = true)
    (hS : Sim fm s g w) (hF : FrameRep fm g s.n nt A a.tmps) (h : exOps call aos A s = some (A', s')) {Q : Exit → Act → World → Prop}
    (hQ : ∀ a' w' g', RPost fm nt g w s s' (A'.keep keep) a a' g' w' → Q .normal a' w') : (Code.region id ops false).wpIn (FW r) m P Q a w := by
  have hlen : aos.length = ops.size := by
    have : ∀ (x : List AOper) (y : List Oper), okOpers P fm nt ops x y = true → x.length = y.length := by
      intro x
      induction x with
      | nil => intro y hy; cases y <;> simp [okOpers] at hy ⊢
      | cons a l ih => intro y hy; cases y <;> simp [okOpers] at hy ⊢; exact ih _ hy.2
    rw [this _ _ hok]; simp
  refine wpIn_region ?_
  have := exOps_sound (r := r) (m := m) (Q := Q) hcall aos ops.toList 0 A s g w a A' s' hok (fun j => by simp) hS hF h
    (fun a' w' g' hp => hQ a' w' g' ⟨hp.sim, hp.le, hp.n, hp.kept, hp.frame.keeps keep, hp.defers⟩)
  rw [hlen, ← List.range_eq_range'] at this
  exact this

end
end Go.Proofs.YtdhgdpokdhjanaaGreat.Abs
/- What an instruction reads, and that it depends on nothing else. -/
namespace Go.Proofs.YtdhgdpokdhjanaaGreat.Abs
open Go

def Opd.slots : Opd → List Nat
  | .tmp d => [d]
  | _ => []
def optSlots : Option Opd → List Nat
  | some x => x.slots
  | none => []

def AOp.reads : AOp → List Nat
  | .mov x | .take x | .box x | .un _ x | .conv _ x | .fieldAddr _ x | .field _ _ _ x | .extract x _ | .nilCheck x | .len _ x | .load _ _ x => x.slots
  | .pick c a b => c.slots ++ (a.slots ++ b.slots)
  | .alloc _ | .allocB | .makeMap | .bad => []
  | .build _ parts | .buildSlice _ _ parts => parts.flatMap fun p => p.2.2.slots
  | .store _ a v => a.slots ++ v.slots
  | .bin _ _ x y | .indexAddr _ x y | .index x y | .append _ x y | .minmax _ x y => x.slots ++ y.slots
  | .slice _ _ x lo hi => x.slots ++ (optSlots lo ++ optSlots hi)
  | .insert _ m k v => m.slots ++ (k.slots ++ v.slots)
  | .lookup _ _ _ m k => m.slots ++ k.slots
  | .makeFunc _ a b => a.flatMap Opd.slots ++ b.flatMap Opd.slots
  | .call f args | .callp f args => f.slots ++ args.flatMap Opd.slots

/-- The slots whose value may lose what it owns. -/
def AOp.takes : AOp → List Nat
  | .take x => x.slots
  | .store _ _ v => v.slots
  | .append _ x _ => x.slots
  | _ => []

def AOp.state : AOp → Bool
  | .call _ _ | .store _ _ _ | .append _ _ _ | .insert _ _ _ _ | .alloc _ | .allocB | .box _ | .makeMap => true
  | _ => false

def ReadsEq (o : AOp) (A : Frame) (s t : ASt) : Prop :=
  match o with
  | .load n agg a => loadAt s n agg (a.ev A) = loadAt t n agg (a.ev A)
  | .lookup _ _ _ m _ => entries s (m.ev A) = entries t (m.ev A)
  | _ => True

theorem sameO_eq {a b : Option AVal} (h : sameO a b = true) : a = b := by
  cases a <;> cases b <;> simp [sameO] at h ⊢
  exact same_eq h

theorem sameE_eq {a b : Option (List AVal × List AVal)} (h : sameE a b = true) : a = b := by
  rcases a with _ | ⟨a1, a2⟩ <;> rcases b with _ | ⟨b1, b2⟩ <;> simp [sameE] at h ⊢
  exact ⟨sameL_eq h.1, sameL_eq h.2⟩

theorem readsSame_eq {o : AOp} {A : Frame} {s t : ASt} (h : readsSame o A s t = true) : ReadsEq o A s t := by
  cases o <;> simp only [readsSame, ReadsEq] at h ⊢
  · exact sameO_eq h
  · exact sameE_eq h

section
variable {A B A' : Frame} {s s' t : ASt} {call : CallFn} {v : AVal}

theorem ev_congr {x : Opd} (h : ∀ d ∈ x.slots, A.get d = B.get d) : x.ev B = x.ev A := by
  cases x with
  | tmp d => simp only [Opd.ev, h d (by simp [Opd.slots])]
  | _ => rfl

structure Like (ws : List Nat) (A B A' B' : Frame) : Prop where
  same : ∀ d ∈ ws, A'.get d = B'.get d
  left : ∀ d, d ∉ ws → A'.get d = A.get d
  right : ∀ d, d ∉ ws → B'.get d = B.get d

theorem get_put' (A : Frame) (d k : Nat) (v : AVal) : (A.put k v).get d = if k = d then v else A.get d := rfl

theorem like_put {d : Nat} {v : AVal} : Like [d] A B (A.put d v) (B.put d v) :=
  ⟨fun k hk => by simp at hk; subst hk; simp [get_put'], fun k hk => by simp at hk; simp [get_put', Ne.symm hk], fun k hk => by simp at hk; simp [get_put', Ne.symm hk]⟩

theorem like_same {ws : List Nat} (h : ∀ d ∈ ws, A.get d = B.get d) : Like ws A B A B := ⟨h, fun _ _ => rfl, fun _ _ => rfl⟩
theorem like_nil : Like [] A B A B := like_same (by simp)

theorem taken_congr {x : Opd} (h : ∀ d ∈ x.slots, A.get d = B.get d) : (x.taken B).1 = (x.taken A).1 ∧ Like x.slots A B (x.taken A).2 (x.taken B).2 := by
  cases x with
  | tmp d =>
    have e := h d (by simp [Opd.slots])
    simp only [Opd.taken, ← e, Opd.slots]
    split
    · exact ⟨rfl, like_put⟩
    · exact ⟨rfl, like_same (fun k hk => by simp at hk; subst hk; exact e)⟩
  | val a => exact ⟨rfl, like_nil⟩
  | fn i => exact ⟨rfl, like_nil⟩

theorem map_ev_congr {l : List Opd} (h : ∀ d ∈ l.flatMap Opd.slots, A.get d = B.get d) : l.map (·.ev B) = l.map (·.ev A) :=
  List.map_congr_left fun x hx => ev_congr fun d hd => h d (List.mem_flatMap.2 ⟨x, hx, hd⟩)

theorem parts_congr {l : List (Nat × Nat × Opd)} (h : ∀ d ∈ l.flatMap (fun p => p.2.2.slots), A.get d = B.get d) :
    (l.map fun (i, n, x) => (i, n, Opd.ev B x)) = l.map fun (i, n, x) => (i, n, Opd.ev A x) :=
  List.map_congr_left fun x hx => by
    obtain ⟨i, n, x⟩ := x
    show (i, n, Opd.ev B x) = (i, n, Opd.ev A x)
    rw [ev_congr fun d hd => h d (List.mem_flatMap.2 ⟨(i, n, x), hx, hd⟩)]

theorem opt_congr {x : Option Opd} (h : ∀ d ∈ optSlots x, A.get d = B.get d) : x.map (·.ev B) = x.map (·.ev A) := by
  cases x with
  | none => rfl
  | some x => simp only [Option.map_some, ev_congr (x := x) h]

theorem base_congr {size : Nat} {x : Opd} (h : ∀ d ∈ x.slots, A.get d = B.get d) {cs : List AVal} {n : Nat} (hx : base size A s x = some (cs, n, A', s')) :
    ∃ B', base size B s x = some (cs, n, B', s') ∧ Like x.slots A B A' B' := by
  cases x with
  | val a => cases a <;> simp only [base] at hx ⊢ <;> cases hx; exact ⟨B, rfl, like_nil⟩
  | fn i => simp [base] at hx
  | tmp d =>
    have e := h d (by simp [Opd.slots])
    have hl : Like [d] A B A B := like_same (fun k hk => by simp at hk; subst hk; exact e)
    simp only [base, e, Opd.slots] at hx ⊢
    split at hx
    · cases hx; exact ⟨B, rfl, hl⟩
    · cases hx; exact ⟨B, rfl, hl⟩
    · split at hx
      · rename_i hz
        cases hx
        exact ⟨_, by rw [if_pos hz], like_put⟩
      · cases hx
    · split at hx
      · split at hx
        · split at hx
          · rename_i hz
            cases hx
            exact ⟨_, by rw [if_pos hz], hl⟩
          · cases hx
        · cases hx
      · cases hx
    · cases hx

/-- Other instructions than these three leave the frame alone. -/
def AOp.calm : AOp → Bool
  | .take _ | .store _ _ _ | .append _ _ _ => false
  | _ => true

def outF (B : Frame) (r : AVal × Frame × ASt) : AVal × Frame × ASt := (r.1, B, r.2.2)

theorem calm_congr {o : AOp} (hc : o.calm = true) (h : ∀ d ∈ o.reads, A.get d = B.get d) (hx : aop call o A s = some (v, A', s')) : A' = A ∧ aop call o B s = some (v, B, s') := by
  cases o <;> simp only [AOp.reads, List.mem_append, or_imp, forall_and] at h <;> try (cases hc; done)
  case mov x => cases hx; exact ⟨rfl, by simp only [aop, ev_congr h]⟩
  case pick c a b =>
    simp only [aop, ev_congr h.1, ev_congr h.2.1, ev_congr h.2.2] at hx ⊢
    split at hx <;> cases hx <;> exact ⟨rfl, rfl⟩
  case alloc cs => cases hx; exact ⟨rfl, rfl⟩
  case allocB => cases hx; exact ⟨rfl, rfl⟩
  case box x =>
    simp only [aop, ev_congr h] at hx ⊢
    split at hx
    · rename_i hk; cases hx; exact ⟨rfl, by rw [if_pos hk]⟩
    · cases hx
  case build zero parts =>
    simp only [aop, parts_congr h] at hx ⊢
    obtain ⟨u, hu, hx⟩ := bind_some' hx
    cases hx
    exact ⟨rfl, by rw [hu]; rfl⟩
  case buildSlice zero len parts =>
    simp only [aop, parts_congr h] at hx ⊢
    obtain ⟨u, hu, hx⟩ := bind_some' hx
    cases hx
    exact ⟨rfl, by rw [hu]; rfl⟩
  case load n agg a =>
    simp only [aop, ev_congr h] at hx ⊢
    obtain ⟨u, hu, hx⟩ := bind_some' hx
    cases hx
    exact ⟨rfl, by rw [hu]; rfl⟩
  case bin op ty x y =>
    simp only [aop, ev_congr h.1, ev_congr h.2] at hx ⊢
    obtain ⟨u, hu, hx⟩ := bind_some' hx
    cases hx
    exact ⟨rfl, by rw [hu]; rfl⟩
  case un op x =>
    simp only [aop, ev_congr h] at hx ⊢
    obtain ⟨u, hu, hx⟩ := bind_some' hx
    cases hx
    exact ⟨rfl, by rw [hu]; rfl⟩
  case conv k x =>
    simp only [aop, ev_congr h] at hx ⊢
    obtain ⟨u, hu, hx⟩ := bind_some' hx
    cases hx
    exact ⟨rfl, by rw [hu]; rfl⟩
  case fieldAddr off x =>
    simp only [aop, ev_congr h] at hx ⊢
    split at hx <;> cases hx <;> exact ⟨rfl, rfl⟩
  case field off n agg x =>
    simp only [aop, ev_congr h] at hx ⊢
    split at hx
    · obtain ⟨u, hu, hx⟩ := bind_some' hx
      obtain ⟨u', hu', hx⟩ := bind_some' hx
      cases hx
      exact ⟨rfl, by rw [hu]; simp only [Option.bind_eq_bind, Option.bind_some, hu']⟩
    · cases hx
  case indexAddr size x i =>
    simp only [aop, ev_congr h.1, ev_congr h.2] at hx ⊢
    split at hx
    · split at hx
      · rename_i hk; cases hx; exact ⟨rfl, by rw [if_pos hk]⟩
      · cases hx
    · cases hx
  case index x i =>
    simp only [aop, ev_congr h.1, ev_congr h.2] at hx ⊢
    split at hx
    · split at hx
      · rename_i hk
        obtain ⟨u, hu, hx⟩ := bind_some' hx
        cases hx; exact ⟨rfl, by rw [if_pos hk, hu]; rfl⟩
      · cases hx
    · cases hx
  case slice str size x lo hi =>
    simp only [aop, ev_congr h.1, opt_congr h.2.1, opt_congr h.2.2] at hx ⊢
    obtain ⟨u, hu, hx⟩ := bind_some' hx
    cases hx
    exact ⟨rfl, by rw [hu]; rfl⟩
  case makeMap => cases hx; exact ⟨rfl, rfl⟩
  case insert kt m k v0 =>
    simp only [aop, ev_congr h.1, ev_congr h.2.1, ev_congr h.2.2] at hx ⊢
    split at hx
    · split at hx
      · obtain ⟨u, hu, hx⟩ := bind_some' hx
        split at hx
        · rename_i hk
          cases hx
          refine ⟨rfl, ?_⟩
          rw [hu]
          simp only [Option.bind_eq_bind, Option.bind_some]
          rw [if_pos hk]
        · cases hx
      · cases hx
    · cases hx
  case lookup kt zero ok m k =>
    simp only [aop, ev_congr h.1, ev_congr h.2] at hx ⊢
    obtain ⟨u, hu, hx⟩ := bind_some' hx
    obtain ⟨u', hu', hx⟩ := bind_some' hx
    cases hx
    exact ⟨rfl, by rw [hu]; simp only [Option.bind_eq_bind, Option.bind_some, hu']⟩
  case extract x i =>
    simp only [aop, ev_congr h] at hx ⊢
    split at hx
    · obtain ⟨u, hu, hx⟩ := bind_some' hx
      cases hx
      exact ⟨rfl, by rw [hu]; rfl⟩
    · cases hx
  case nilCheck x =>
    simp only [aop, ev_congr h] at hx ⊢
    split at hx <;> cases hx <;> exact ⟨rfl, rfl⟩
  case makeFunc f a b =>
    simp only [aop, map_ev_congr (l := a) h.1, map_ev_congr (l := b) h.2] at hx ⊢
    cases hx; exact ⟨rfl, rfl⟩
  case call f args =>
    simp only [aop, ev_congr h.1, map_ev_congr (l := args) h.2] at hx ⊢
    split at hx
    · obtain ⟨u, hu, hx⟩ := map_some' hx
      cases hx
      exact ⟨rfl, by rw [hu]; rfl⟩
    · cases hx
  case callp f args =>
    simp only [aop, ev_congr h.1, map_ev_congr (l := args) h.2] at hx ⊢
    split at hx
    · split at hx
      · rename_i hu
        obtain ⟨u, hu2, hx⟩ := bind_some' hx
        split at hx
        · rename_i hn
          cases hx
          exact ⟨rfl, by rw [if_pos hu, hu2]; simp only [Option.bind_some]; rw [if_pos hn]⟩
        · cases hx
      · cases hx
    · cases hx
  case len str x =>
    simp only [aop, ev_congr h] at hx ⊢
    split at hx <;> cases hx <;> exact ⟨rfl, rfl⟩
  case minmax m x y =>
    simp only [aop, ev_congr h.1, ev_congr h.2] at hx ⊢
    split at hx
    · split at hx
      · rename_i hk; cases hx; exact ⟨rfl, by rw [if_pos hk]⟩
      · cases hx
    · cases hx
  case bad => cases hx

theorem aop_congr {o : AOp} (h : ∀ d ∈ o.reads, A.get d = B.get d) (hx : aop call o A s = some (v, A', s')) :
    ∃ B', aop call o B s = some (v, B', s') ∧ Like o.takes A B A' B' := by
  cases hc : o.calm
  · cases o <;> simp only [AOp.calm, Bool.true_eq_false] at hc <;> simp only [AOp.reads, List.mem_append, or_imp, forall_and] at h
    case take x =>
      obtain ⟨e, hl⟩ := taken_congr h
      simp only [aop] at hx ⊢
      cases hx
      exact ⟨_, by rw [e], hl⟩
    case store n a v0 =>
      obtain ⟨e, hl⟩ := taken_congr h.2
      simp only [aop, ev_congr h.1, e] at hx ⊢
      obtain ⟨u, hu, hx⟩ := bind_some' hx
      cases hx
      exact ⟨_, by rw [hu]; rfl, hl⟩
    case append size x y =>
      obtain ⟨e, hl⟩ := taken_congr h.1
      simp only [aop, aappend, ev_congr h.2, e, AOp.takes] at hx ⊢
      obtain ⟨⟨new, k⟩, hu, hx⟩ := bind_some' hx
      rw [hu]
      simp only [Option.bind_eq_bind, Option.bind_some] at hx ⊢
      split at hx
      · rename_i hk
        rw [if_pos hk]
        split at hx
        · cases hx; exact ⟨_, rfl, hl⟩
        · cases hx; exact ⟨_, rfl, hl⟩
        · cases hx
      · rename_i hk
        rw [if_neg hk]
        obtain ⟨⟨cs, n, A1, s1⟩, hb, hx⟩ := bind_some' hx
        obtain ⟨B', hb', hl'⟩ := base_congr h.1 hb
        rw [hb']
        simp only [Option.bind_some] at hx ⊢
        split at hx
        · rename_i hq
          cases hx
          exact ⟨_, by rw [if_pos hq], hl'⟩
        · cases hx
  · obtain ⟨rfl, h2⟩ := calm_congr hc h hx
    have : o.takes = [] := by cases o <;> first | rfl | cases hc
    rw [this]
    exact ⟨B, h2, like_nil⟩

/-- An instruction that changes no state, in another state that reads the same. -/
theorem aop_plain {o : AOp} (hs : o.state = false) (hr : ReadsEq o A s t) (hx : aop call o A s = some (v, A', s')) : s' = s ∧ aop call o A t = some (v, A', t) := by
  cases o <;> try (cases hs; done)
  case load n agg a =>
    simp only [ReadsEq] at hr
    simp only [aop] at hx ⊢
    obtain ⟨u, hu, hx⟩ := bind_some' hx
    cases hx
    exact ⟨rfl, by rw [← hr, hu]; rfl⟩
  case lookup kt zero ok m k =>
    simp only [ReadsEq] at hr
    simp only [aop] at hx ⊢
    obtain ⟨u, hu, hx⟩ := bind_some' hx
    obtain ⟨u', hu', hx⟩ := bind_some' hx
    cases hx
    exact ⟨rfl, by rw [← hr, hu]; simp only [Option.bind_eq_bind, Option.bind_some, hu']⟩
  case mov x => cases hx; exact ⟨rfl, rfl⟩
  case take x => cases hx; exact ⟨rfl, rfl⟩
  case pick c a b =>
    simp only [aop] at hx ⊢
    split at hx <;> cases hx <;> exact ⟨rfl, rfl⟩
  case build zero parts =>
    simp only [aop] at hx ⊢
    obtain ⟨u, hu, hx⟩ := bind_some' hx
    cases hx
    exact ⟨rfl, by rw [hu]; rfl⟩
  case buildSlice zero len parts =>
    simp only [aop] at hx ⊢
    obtain ⟨u, hu, hx⟩ := bind_some' hx
    cases hx
    exact ⟨rfl, by rw [hu]; rfl⟩
  case bin op ty x y =>
    simp only [aop] at hx ⊢
    obtain ⟨u, hu, hx⟩ := bind_some' hx
    cases hx
    exact ⟨rfl, by rw [hu]; rfl⟩
  case un op x =>
    simp only [aop] at hx ⊢
    obtain ⟨u, hu, hx⟩ := bind_some' hx
    cases hx
    exact ⟨rfl, by rw [hu]; rfl⟩
  case conv k x =>
    simp only [aop] at hx ⊢
    obtain ⟨u, hu, hx⟩ := bind_some' hx
    cases hx
    exact ⟨rfl, by rw [hu]; rfl⟩
  case fieldAddr off x =>
    simp only [aop] at hx ⊢
    split at hx <;> cases hx <;> exact ⟨rfl, rfl⟩
  case field off n agg x =>
    simp only [aop] at hx ⊢
    split at hx
    · obtain ⟨u, hu, hx⟩ := bind_some' hx
      obtain ⟨u', hu', hx⟩ := bind_some' hx
      cases hx
      exact ⟨rfl, by rw [hu]; simp only [Option.bind_eq_bind, Option.bind_some, hu']⟩
    · cases hx
  case indexAddr size x i =>
    simp only [aop] at hx ⊢
    split at hx
    · split at hx
      · rename_i hk; cases hx; exact ⟨rfl, by rw [if_pos hk]⟩
      · cases hx
    · cases hx
  case index x i =>
    simp only [aop] at hx ⊢
    split at hx
    · split at hx
      · rename_i hk
        obtain ⟨u, hu, hx⟩ := bind_some' hx
        cases hx; exact ⟨rfl, by rw [if_pos hk, hu]; rfl⟩
      · cases hx
    · cases hx
  case slice str size x lo hi =>
    simp only [aop] at hx ⊢
    obtain ⟨u, hu, hx⟩ := bind_some' hx
    cases hx
    exact ⟨rfl, by rw [hu]; rfl⟩
  case extract x i =>
    simp only [aop] at hx ⊢
    split at hx
    · obtain ⟨u, hu, hx⟩ := bind_some' hx
      cases hx
      exact ⟨rfl, by rw [hu]; rfl⟩
    · cases hx
  case nilCheck x =>
    simp only [aop] at hx ⊢
    split at hx <;> cases hx <;> exact ⟨rfl, rfl⟩
  case makeFunc f a b => cases hx; exact ⟨rfl, rfl⟩
  case callp f args =>
    simp only [aop] at hx ⊢
    split at hx
    · split at hx
      · rename_i hu
        obtain ⟨u, hu2, hx⟩ := bind_some' hx
        split at hx
        · rename_i hn
          cases hx
          exact ⟨rfl, by rw [if_pos hu, hu2]; simp only [Option.bind_some]; rw [if_pos hn]⟩
        · cases hx
      · cases hx
    · cases hx
  case len str x =>
    simp only [aop] at hx ⊢
    split at hx <;> cases hx <;> exact ⟨rfl, rfl⟩
  case minmax m x y =>
    simp only [aop] at hx ⊢
    split at hx
    · split at hx
      · rename_i hk; cases hx; exact ⟨rfl, by rw [if_pos hk]⟩
      · cases hx
    · cases hx
  case bad => cases hx

theorem wanted_congr {gd : Option (Nat × Bool)} (h : ∀ d ∈ (match gd with | some (d, _) => [d] | none => ([] : List Nat)), A.get d = B.get d) : wanted B gd = wanted A gd := by
  cases gd with
  | none => rfl
  | some x =>
    obtain ⟨d, b⟩ := x
    simp only [wanted, h d (by simp)]

end
end Go.Proofs.YtdhgdpokdhjanaaGreat.Abs
/- Regions whose order is open. -/
namespace Go.Proofs.YtdhgdpokdhjanaaGreat.Abs
open Go

def guardSlots : Option (Nat × Bool) → List Nat
  | some (d, _) => [d]
  | none => []
def dstSlots : Option Nat → List Nat
  | some d => [d]
  | none => []
def AOper.reads (o : AOper) : List Nat := o.op.reads ++ guardSlots o.guard
def AOper.writes (o : AOper) : List Nat := o.op.takes ++ dstSlots o.dst

def AOp.looks : AOp → Bool
  | .load _ _ _ | .lookup _ _ _ _ _ => true
  | _ => false

def maskOf (masks : List Nat) : List Edge → Nat
  | [] => 0
  | e :: es => if Region.binds .any e then (2 ^ e.on ||| masks.getD e.on 0) ||| maskOf masks es else maskOf masks es
def masksOk (masks : List Nat) : Nat → List Oper → List Nat → Bool
  | _, [], [] => true
  | i, o :: os, m :: ms => m == maskOf masks o.after.toList && o.after.toList.all (fun e => !Region.binds .any e || decide (e.on < i)) && masksOk masks (i + 1) os ms
  | _, _, _ => false
def apart (a b : List Nat) : Bool := a.all fun x => !b.contains x
def pairGood (masks : List Nat) (pairs : List (Nat × Nat)) (i j : Nat) (x y : AOper) : Bool :=
  (masks.getD j 0).testBit i ||
    (apart x.writes y.reads && apart x.writes y.writes && apart x.reads y.writes && !(x.op.state && y.op.state) &&
      (!(x.op.state && y.op.looks) || pairs.contains (i, j)) && (!(x.op.looks && y.op.state) || pairs.contains (j, i)))
def pairsGood (masks : List Nat) (pairs : List (Nat × Nat)) (aos : List AOper) : Bool :=
  (List.range aos.length).all fun j => (List.range j).all fun i => match aos[i]?, aos[j]? with
    | some x, some y => pairGood masks pairs i j x y
    | _, _ => false
def masksOf : List Oper → List Nat → List Nat
  | [], acc => acc
  | o :: os, acc => masksOf os (acc ++ [maskOf acc o.after.toList])
def okDraw (pairs : List (Nat × Nat)) (aos : List AOper) (os : List Oper) : Bool :=
  masksOk (masksOf os []) 0 os (masksOf os []) && pairsGood (masksOf os []) pairs aos

def OperStep (call : CallFn) (o : AOper) (A : Frame) (s : ASt) (A' : Frame) (s' : ASt) : Prop :=
  ∃ b, wanted A o.guard = some b ∧ (if b then ∃ v A1, aop call o.op A s = some (v, A1, s') ∧ A' = A1.putO o.dst v else A' = A.putO o.dst (.tup []) ∧ s' = s)

section
variable {call : CallFn} {A B A' : Frame} {s s' t : ASt} {P : Program} {fm : Nat → Nat} {nt : Nat}

theorem get_putO (A : Frame) (dst : Option Nat) (v : AVal) (d : Nat) : (A.putO dst v).get d = if d ∈ dstSlots dst then v else A.get d := by
  cases dst with
  | none => simp [Frame.putO, dstSlots]
  | some k =>
    simp only [Frame.putO, get_put', dstSlots, List.mem_singleton]
    by_cases h : k = d
    · subst h; simp
    · simp [h, Ne.symm h]

theorem OperStep.congr {o : AOper} (h : ∀ d ∈ o.reads, A.get d = B.get d) (hx : OperStep call o A s A' s') :
    ∃ B', OperStep call o B s B' s' ∧ (∀ d ∈ o.writes, A.get d = B.get d → A'.get d = B'.get d) ∧ (∀ d, d ∉ o.writes → A'.get d = A.get d) ∧ ∀ d, d ∉ o.writes → B'.get d = B.get d := by
  obtain ⟨b, hw, hx⟩ := hx
  have hg : wanted B o.guard = some b := by
    rw [← hw]
    refine wanted_congr (fun d hd => h d (List.mem_append_right _ ?_))
    cases hgg : o.guard with
    | none => rw [hgg] at hd; simp at hd
    | some x => rw [hgg] at hd; simpa [guardSlots] using hd
  cases b with
  | true =>
    simp only [if_true] at hx
    obtain ⟨v, A1, hx, rfl⟩ := hx
    obtain ⟨B1, h1, h2⟩ := aop_congr (B := B) (fun d hd => h d (List.mem_append_left _ hd)) hx
    refine ⟨B1.putO o.dst v, ⟨true, hg, by simp only [if_true]; exact ⟨v, B1, h1, rfl⟩⟩, ?_, ?_, ?_⟩
    · intro d hd hAB
      rw [get_putO, get_putO]
      split
      · rfl
      · rename_i hn
        unfold AOper.writes at hd
        rw [List.mem_append] at hd
        exact h2.same d (hd.resolve_right hn)
    · intro d hd
      unfold AOper.writes at hd
      rw [List.mem_append, not_or] at hd
      rw [get_putO, if_neg hd.2, h2.left d hd.1]
    · intro d hd
      unfold AOper.writes at hd
      rw [List.mem_append, not_or] at hd
      rw [get_putO, if_neg hd.2, h2.right d hd.1]
  | false =>
    simp only [Bool.false_eq_true, if_false] at hx
    obtain ⟨rfl, rfl⟩ := hx
    refine ⟨B.putO o.dst (.tup []), ⟨false, hg, by simp⟩, ?_, ?_, ?_⟩
    · intro d hd hAB
      rw [get_putO, get_putO, hAB]
    · intro d hd
      unfold AOper.writes at hd
      rw [List.mem_append, not_or] at hd
      rw [get_putO, if_neg hd.2]
    · intro d hd
      unfold AOper.writes at hd
      rw [List.mem_append, not_or] at hd
      rw [get_putO, if_neg hd.2]

theorem OperStep.plain {o : AOper} (hs : o.op.state = false) (hr : wanted A o.guard = some false ∨ ReadsEq o.op A s t) (hx : OperStep call o A s A' s') : s' = s ∧ OperStep call o A t A' t := by
  obtain ⟨b, hw, hx⟩ := hx
  cases b with
  | true =>
    simp only [if_true] at hx
    obtain ⟨v, A1, hx, rfl⟩ := hx
    rcases hr with hr | hr
    · rw [hw] at hr; cases hr
    · obtain ⟨h1, h2⟩ := aop_plain hs hr hx
      exact ⟨h1, true, hw, by simp only [if_true]; exact ⟨v, A1, h2, rfl⟩⟩
  | false =>
    simp only [Bool.false_eq_true, if_false] at hx
    obtain ⟨rfl, rfl⟩ := hx
    exact ⟨rfl, false, hw, by simp⟩

theorem exTrace_steps : ∀ (aos : List AOper) (A : Frame) (s : ASt) (tr : List (Frame × ASt)), exTrace call aos A s = some tr →
    tr.length = aos.length + 1 ∧ tr[0]? = some (A, s) ∧ ∀ i o A1 s1 A2 s2, aos[i]? = some o → tr[i]? = some (A1, s1) → tr[i + 1]? = some (A2, s2) → OperStep call o A1 s1 A2 s2
  | [], A, s, tr, h => by
    simp only [exTrace, Option.some.injEq] at h
    subst h
    exact ⟨rfl, rfl, fun i o _ _ _ _ h => by simp at h⟩
  | o :: aos, A, s, tr, h => by
    have key : ∀ A1 s1 l, OperStep call o A s A1 s1 → exTrace call aos A1 s1 = some l → tr = (A, s) :: l →
        tr.length = (o :: aos).length + 1 ∧ tr[0]? = some (A, s) ∧ ∀ i o' A1 s1 A2 s2, (o :: aos)[i]? = some o' → tr[i]? = some (A1, s1) → tr[i + 1]? = some (A2, s2) → OperStep call o' A1 s1 A2 s2 := by
      intro A1 s1 l hst hl e
      subst e
      obtain ⟨q1, q2, q3⟩ := exTrace_steps aos A1 s1 l hl
      refine ⟨by simp [q1], rfl, fun i o' B1 t1 B2 t2 ho h1 h2 => ?_⟩
      cases i with
      | zero =>
        simp only [List.getElem?_cons_zero, Option.some.injEq, Prod.mk.injEq] at ho h1
        obtain ⟨rfl, rfl⟩ := h1
        subst ho
        simp only [List.getElem?_cons_succ, q2, Option.some.injEq, Prod.mk.injEq] at h2
        obtain ⟨rfl, rfl⟩ := h2
        exact hst
      | succ i =>
        simp only [List.getElem?_cons_succ] at ho h1 h2
        exact q3 i o' _ _ _ _ ho h1 h2
    simp only [exTrace] at h
    split at h
    · rename_i hw
      obtain ⟨⟨v, A2, s2⟩, h1, h2⟩ := bind_some' h
      obtain ⟨l, hl, rfl⟩ := map_some' h2
      exact key _ _ l ⟨true, hw, by simp only [if_true]; exact ⟨v, A2, h1, rfl⟩⟩ hl rfl
    · rename_i hw
      obtain ⟨l, hl, rfl⟩ := map_some' h
      exact key _ _ l ⟨false, hw, by simp⟩ hl rfl
    · cases h

theorem maskOf_bit {masks : List Nat} {j : Nat} : ∀ {es : List Edge}, (maskOf masks es).testBit j = true → ∃ e ∈ es, Region.binds .any e = true ∧ (e.on = j ∨ (masks.getD e.on 0).testBit j = true)
  | [], h => by simp [maskOf] at h
  | e :: es, h => by
    simp only [maskOf] at h
    split at h
    · rename_i hb
      rw [Nat.testBit_or, Nat.testBit_or, Bool.or_eq_true, Bool.or_eq_true] at h
      rcases h with (h | h) | h
      · rw [Nat.testBit_two_pow] at h
        exact ⟨e, by simp, hb, .inl (by simpa using h)⟩
      · exact ⟨e, by simp, hb, .inr h⟩
      · obtain ⟨e', h1, h2⟩ := maskOf_bit h
        exact ⟨e', by simp [h1], h2⟩
    · obtain ⟨e', h1, h2⟩ := maskOf_bit h
      exact ⟨e', by simp [h1], h2⟩

theorem masksOk_get {masks : List Nat} : ∀ {k : Nat} {os : List Oper} {ms : List Nat}, masksOk masks k os ms = true → ∀ i o, os[i]? = some o →
    ms[i]? = some (maskOf masks o.after.toList) ∧ ∀ e ∈ o.after, Region.binds .any e = true → e.on < k + i
  | _, [], _, _, i, o, ho => by simp at ho
  | k, x :: os, [], h, i, o, ho => by simp [masksOk] at h
  | k, x :: os, m :: ms, h, i, o, ho => by
    simp only [masksOk, Bool.and_eq_true, beq_iff_eq, List.all_eq_true, Bool.or_eq_true, Bool.not_eq_true', decide_eq_true_eq] at h
    cases i with
    | zero =>
      simp only [List.getElem?_cons_zero, Option.some.injEq] at ho
      subst ho
      refine ⟨by simp [h.1.1], fun e he hb => ?_⟩
      rcases h.1.2 e (by simpa using he) with h' | h'
      · rw [hb] at h'; cases h'
      · simpa using h'
    | succ i =>
      simp only [List.getElem?_cons_succ] at ho ⊢
      obtain ⟨h1, h2⟩ := masksOk_get h.2 i o ho
      exact ⟨h1, fun e he hb => by have := h2 e he hb; omega⟩

/-- What stands before an instruction in the closed order, has been taken. -/
theorem closed_bit {masks : List Nat} {os : List Oper} (hm : masksOk masks 0 os masks = true) {X : Nat → Prop}
    (hX : ∀ i o, os[i]? = some o → X i → ∀ e ∈ o.after, Region.binds .any e = true → X e.on) :
    ∀ (i : Nat) (o : Oper), os[i]? = some o → (∀ e ∈ o.after, Region.binds .any e = true → X e.on) → ∀ j, (masks.getD i 0).testBit j = true → X j := by
  intro i
  induction i using Nat.strongRecOn with
  | _ i ih =>
    intro o ho hr j hj
    obtain ⟨h1, h2⟩ := masksOk_get hm i o ho
    rw [List.getD_eq_getElem?_getD, h1, Option.getD_some] at hj
    obtain ⟨e, he, hb, h⟩ := maskOf_bit hj
    have he' : e ∈ o.after := by simpa using he
    have hXe := hr e he' hb
    rcases h with rfl | h
    · exact hXe
    · have hlt := h2 e he' hb
      simp only [Nat.zero_add] at hlt
      have hlen : i < os.length := (List.getElem?_eq_some_iff.1 ho).1
      obtain ⟨o', ho'⟩ : ∃ o', os[e.on]? = some o' := ⟨os[e.on], by simp [show e.on < os.length from by omega]⟩
      exact ih e.on hlt o' ho' (hX _ _ ho' hXe) j h

theorem apart_spec {a b : List Nat} (h : apart a b = true) {d : Nat} (ha : d ∈ a) (hb : d ∈ b) : False := by
  simp only [apart, List.all_eq_true] at h
  have := h d ha
  simp only [Bool.not_eq_true', List.contains_eq_mem, decide_eq_false_iff_not] at this
  exact this hb

theorem pairsGood_get {masks : List Nat} {pairs : List (Nat × Nat)} {aos : List AOper} (h : pairsGood masks pairs aos = true) {i j : Nat} (hij : i < j) {x y : AOper} (hx : aos[i]? = some x) (hy : aos[j]? = some y) :
    pairGood masks pairs i j x y = true := by
  simp only [pairsGood, List.all_eq_true, List.mem_range] at h
  have := h j (List.getElem?_eq_some_iff.1 hy).1 i hij
  simpa [hx, hy] using this

theorem okOpers_get {ops : Array Oper} : ∀ {aos : List AOper} {os : List Oper}, okOpers P fm nt ops aos os = true → aos.length = os.length ∧ ∀ (i : Nat) (o : Oper), os[i]? = some o → ∃ ao, aos[i]? = some ao ∧ okOper P fm nt ops ao o = true
  | [], [], _ => ⟨rfl, fun i o h => by simp at h⟩
  | [], _ :: _, h => by simp [okOpers] at h
  | _ :: _, [], h => by simp [okOpers] at h
  | x :: aos, y :: os, h => by
    simp only [okOpers, Bool.and_eq_true] at h
    obtain ⟨h1, h2⟩ := okOpers_get h.2
    refine ⟨by simp [h1], fun i o ho => ?_⟩
    cases i with
    | zero => simp only [List.getElem?_cons_zero, Option.some.injEq] at ho ⊢; subst ho; exact ⟨x, rfl, h.1⟩
    | succ i => simpa using h2 i o (by simpa using ho)

/-- How far a region has come: which instructions have been taken, the frame, and the place in the text whose state it is in. -/
structure Mid (aos : List AOper) (os : List Oper) (T : Nat → Frame × ASt) (X : Nat → Prop) (B : Frame) (t : ASt) : Prop where
  closed : ∀ i o, os[i]? = some o → X i → ∀ e ∈ o.after, Region.binds .any e = true → X e.on
  frame : ∀ d i, i ≤ aos.length → (∀ k x, k < i → aos[k]? = some x → d ∈ x.writes → X k) → (∀ k x, i ≤ k → aos[k]? = some x → d ∈ x.writes → ¬X k) → B.get d = (T i).1.get d
  state : ∃ b, b ≤ aos.length ∧ (∀ k x, k < b → aos[k]? = some x → x.op.state = true → X k) ∧ (∀ k x, b ≤ k → aos[k]? = some x → x.op.state = true → ¬X k) ∧ t = (T b).2

variable {aos : List AOper} {os : List Oper} {T : Nat → Frame × ASt} {masks : List Nat} {pairs : List (Nat × Nat)}

theorem calm_between (hT : ∀ i o, aos[i]? = some o → OperStep call o (T i).1 (T i).2 (T (i + 1)).1 (T (i + 1)).2) {a c : Nat} (hac : a ≤ c) (hc : c ≤ aos.length) (hn : ∀ k x, a ≤ k → k < c → aos[k]? = some x → x.op.state = false) :
    (T c).2 = (T a).2 := by
  induction hac with
  | refl => rfl
  | @step c hac ih =>
    have hac : a ≤ c := hac
    have hlt : c < aos.length := by omega
    have hx : aos[c]? = some aos[c] := by simp [hlt]
    have h1 := (hT c _ hx).plain (t := (T c).2) (hn c _ hac (by omega) hx) (.inr ?_)
    · rw [h1.1]; exact ih (by omega) (fun k x h1 h2 => hn k x h1 (by omega))
    · cases aos[c].op <;> simp [ReadsEq]

theorem putless (hT : ∀ i o, aos[i]? = some o → OperStep call o (T i).1 (T i).2 (T (i + 1)).1 (T (i + 1)).2) {d a c : Nat} (hac : a ≤ c) (hc : c ≤ aos.length) (hn : ∀ k x, a ≤ k → k < c → aos[k]? = some x → d ∉ x.writes) :
    (T c).1.get d = (T a).1.get d := by
  induction hac with
  | refl => rfl
  | @step c hac ih =>
    have hac : a ≤ c := hac
    have hlt : c < aos.length := by omega
    have hx : aos[c]? = some aos[c] := by simp [hlt]
    obtain ⟨_, _, _, h3, _⟩ := (hT c _ hx).congr (B := (T c).1) (fun _ _ => rfl)
    rw [h3 d (hn c _ hac (by omega) hx)]
    exact ih (by omega) (fun k x h1 h2 => hn k x h1 (by omega))

theorem mid_step (hlen : aos.length = os.length) (hT : ∀ i o, aos[i]? = some o → OperStep call o (T i).1 (T i).2 (T (i + 1)).1 (T (i + 1)).2) (hm : masksOk masks 0 os masks = true) (hp : pairsGood masks pairs aos = true)
    (hpairs : ∀ j l o, (j, l) ∈ pairs → aos[l]? = some o → wanted (T l).1 o.guard = some false ∨ ReadsEq o.op (T l).1 (T j).2 (T (j + 1)).2)
    {X : Nat → Prop} (hM : Mid aos os T X B t) {i : Nat} {o : Oper} {x : AOper} (ho : os[i]? = some o) (hx : aos[i]? = some x) (hi : ¬X i) (hr : ∀ e ∈ o.after, Region.binds .any e = true → X e.on) :
    ∃ B' t', OperStep call x B t B' t' ∧ Mid aos os T (fun k => X k ∨ k = i) B' t' := by
  have hil : i < aos.length := (List.getElem?_eq_some_iff.1 hx).1
  -- whoever is on the wrong side stands in no order with it
  have hlow : ∀ k y, k < i → aos[k]? = some y → ¬X k → pairGood masks pairs k i y x = true ∧ (masks.getD i 0).testBit k = false := by
    intro k y hk hy hX
    refine ⟨pairsGood_get hp hk hy hx, ?_⟩
    cases hb : (masks.getD i 0).testBit k
    · rfl
    · exact absurd (closed_bit hm hM.closed i o ho hr k hb) hX
  have hhigh : ∀ k y, i < k → aos[k]? = some y → X k → pairGood masks pairs i k x y = true ∧ (masks.getD k 0).testBit i = false := by
    intro k y hk hy hX
    refine ⟨pairsGood_get hp hk hx hy, ?_⟩
    cases hb : (masks.getD k 0).testBit i
    · rfl
    · have hkl : k < os.length := by rw [← hlen]; exact (List.getElem?_eq_some_iff.1 hy).1
      have hok : os[k]? = some os[k] := by simp [hkl]
      exact absurd (closed_bit hm hM.closed k _ hok (hM.closed k _ hok hX) i hb) hi
  have hlow' : ∀ k y, k < i → aos[k]? = some y → ¬X k → (apart y.writes x.reads = true ∧ apart y.writes x.writes = true ∧ apart y.reads x.writes = true ∧ (y.op.state && x.op.state) = false ∧
      ((y.op.state && x.op.looks) = false ∨ (k, i) ∈ pairs) ∧ ((y.op.looks && x.op.state) = false ∨ (i, k) ∈ pairs)) := by
    intro k y hk hy hX
    obtain ⟨h1, h2⟩ := hlow k y hk hy hX
    simp only [pairGood, h2, Bool.false_or, Bool.and_eq_true, Bool.or_eq_true, Bool.not_eq_true', List.contains_eq_mem, decide_eq_true_eq] at h1
    exact ⟨h1.1.1.1.1.1, h1.1.1.1.1.2, h1.1.1.1.2, h1.1.1.2, h1.1.2, h1.2⟩
  have hhigh' : ∀ k y, i < k → aos[k]? = some y → X k → (apart x.writes y.reads = true ∧ apart x.writes y.writes = true ∧ apart x.reads y.writes = true ∧ (x.op.state && y.op.state) = false ∧
      ((x.op.state && y.op.looks) = false ∨ (i, k) ∈ pairs) ∧ ((x.op.looks && y.op.state) = false ∨ (k, i) ∈ pairs)) := by
    intro k y hk hy hX
    obtain ⟨h1, h2⟩ := hhigh k y hk hy hX
    simp only [pairGood, h2, Bool.false_or, Bool.and_eq_true, Bool.or_eq_true, Bool.not_eq_true', List.contains_eq_mem, decide_eq_true_eq] at h1
    exact ⟨h1.1.1.1.1.1, h1.1.1.1.1.2, h1.1.1.1.2, h1.1.1.2, h1.1.2, h1.2⟩
  have writers : ∀ d, (d ∈ x.reads ∨ d ∈ x.writes) → (∀ k y, k < i → aos[k]? = some y → d ∈ y.writes → X k) ∧ (∀ k y, i ≤ k → aos[k]? = some y → d ∈ y.writes → ¬X k) := by
    intro d hd
    refine ⟨fun k y hk hy hdy => Classical.byContradiction fun hX => ?_, fun k y hk hy hdy hX => ?_⟩
    · obtain ⟨h1, h2, _⟩ := hlow' k y hk hy hX
      rcases hd with hd | hd
      · exact apart_spec h1 hdy hd
      · exact apart_spec h2 hdy hd
    · by_cases e : k = i
      · subst e; exact hi hX
      · obtain ⟨h1, h2, h3, _⟩ := hhigh' k y (by omega) hy hX
        rcases hd with hd | hd
        · exact apart_spec h3 hd hdy
        · exact apart_spec h2 hd hdy
  have hget : ∀ d, (d ∈ x.reads ∨ d ∈ x.writes) → (T i).1.get d = B.get d := fun d hd => (hM.frame d i (by omega) (writers d hd).1 (writers d hd).2).symm
  obtain ⟨b, hb, hb1, hb2, hb3⟩ := hM.state
  -- the step in the state it is in
  have hstep : ∃ t', OperStep call x (T i).1 t (T (i + 1)).1 t' ∧ (x.op.state = true → t' = (T (i + 1)).2) ∧ (x.op.state = false → t' = t) := by
    cases hs : x.op.state with
    | true =>
      have hbi : (T b).2 = (T i).2 := by
        rcases Nat.le_total b i with h | h
        · refine (calm_between hT h (by omega) (fun k y h1 h2 hy => ?_)).symm
          cases hys : y.op.state
          · rfl
          · have := (hlow' k y h2 hy (hb2 k y h1 hy hys)).2.2.2.1
            simp [hys, hs] at this
        · refine calm_between hT h hb (fun k y h1 h2 hy => ?_)
          cases hys : y.op.state
          · rfl
          · have hX := hb1 k y h2 hy hys
            by_cases e : k = i
            · subst e; exact absurd hX hi
            · have := (hhigh' k y (by omega) hy hX).2.2.2.1
              simp [hys, hs] at this
      refine ⟨(T (i + 1)).2, ?_, fun _ => rfl, fun h => by cases h⟩
      rw [hb3, hbi]
      exact hT i x hx
    | false =>
      have hread : wanted (T i).1 x.guard = some false ∨ ReadsEq x.op (T i).1 (T i).2 t := by
        by_cases hw : wanted (T i).1 x.guard = some false
        · exact .inl hw
        · right
          cases hl : x.op.looks
          case false => cases hxo : x.op <;> simp only [ReadsEq] <;> (rw [hxo] at hl; simp [AOp.looks] at hl)
          -- along the state instructions between
          have one : ∀ k y, aos[k]? = some y → (y.op.state = true → (k, i) ∈ pairs) → ReadsEq x.op (T i).1 (T k).2 (T (k + 1)).2 := by
            intro k y hy hk
            cases hys : y.op.state with
            | true => exact (hpairs k i x (hk hys) hx).resolve_left hw
            | false =>
              have := calm_between hT (Nat.le_succ k) (by have := (List.getElem?_eq_some_iff.1 hy).1; omega) (fun k' y' h1 h2 hy' => by
                obtain rfl : k' = k := by omega
                rw [hy] at hy'; cases hy'; exact hys)
              rw [Nat.succ_eq_add_one] at this
              rw [this]
              cases x.op <;> simp [ReadsEq]
          have chain : ∀ a c, a ≤ c → c ≤ aos.length → (∀ k y, a ≤ k → k < c → aos[k]? = some y → y.op.state = true → (k, i) ∈ pairs) → ReadsEq x.op (T i).1 (T a).2 (T c).2 := by
            intro a c hac
            induction hac with
            | refl => intro _ _; cases x.op <;> simp [ReadsEq]
            | @step c hac ih =>
              intro hc h
              have hac : a ≤ c := hac
              have hlt : c < aos.length := by omega
              have h1 := ih (by omega) (fun k y h1 h2 => h k y h1 (by omega))
              have h2 := one c aos[c] (by simp [hlt]) (h c aos[c] hac (by omega) (by simp [hlt]))
              cases hxo : x.op <;> rw [hxo] at h1 h2 <;> simp only [ReadsEq] at h1 h2 ⊢
              · exact h1.trans h2
              · exact h1.trans h2
          have symm : ∀ a c : ASt, ReadsEq x.op (T i).1 a c → ReadsEq x.op (T i).1 c a := by
            intro a c h
            cases hxo : x.op <;> rw [hxo] at h <;> simp only [ReadsEq] at h ⊢
            · exact h.symm
            · exact h.symm
          rw [hb3]
          rcases Nat.le_total b i with h | h
          · refine symm _ _ (chain b i h (by omega) (fun k y h1 h2 hy hys => ?_))
            have := (hlow' k y h2 hy (hb2 k y h1 hy hys)).2.2.2.2.1
            rcases this with h | h
            · simp [hys, hl] at h
            · exact h
          · refine chain i b h hb (fun k y h1 h2 hy hys => ?_)
            have hX := hb1 k y h2 hy hys
            by_cases e : k = i
            · subst e; exact absurd hX hi
            · have := (hhigh' k y (by omega) hy hX).2.2.2.2.2
              rcases this with h | h
              · simp [hys, hl] at h
              · exact h
      obtain ⟨h1, h2⟩ := (hT i x hx).plain hs hread
      exact ⟨t, h2, fun h => by (cases h), fun _ => rfl⟩
  obtain ⟨t', hst, hs1, hs2⟩ := hstep
  obtain ⟨B', h1, h2, h3, h4⟩ := hst.congr (B := B) (fun d hd => hget d (.inl hd))
  refine ⟨B', t', h1, ⟨?_, ?_, ?_⟩⟩
  · intro k ok hok hk e he hbn
    rcases hk with hk | rfl
    · exact .inl (hM.closed k ok hok hk e he hbn)
    · rw [ho] at hok; cases hok
      exact .inl (hr e he hbn)
  · intro d i' hi' hw1 hw2
    by_cases hd : d ∈ x.writes
    · have hlt : i < i' := by
        rcases Nat.lt_or_ge i i' with h | h
        · exact h
        · exact absurd (.inr rfl) (hw2 i x h hx hd)
      rw [← h2 d hd (hget d (.inr hd))]
      refine (putless hT (Nat.succ_le_of_lt hlt) hi' (fun k y hk1 hk2 hy hdy => ?_)).symm
      rcases hw1 k y hk2 hy hdy with h | h
      · exact (writers d (.inr hd)).2 k y (by omega) hy hdy h
      · omega
    · rw [h4 d hd]
      refine hM.frame d i' hi' (fun k y hk hy hdy => ?_) (fun k y hk hy hdy hX => hw2 k y hk hy hdy (.inl hX))
      rcases hw1 k y hk hy hdy with h | h
      · exact h
      · subst h; rw [hx] at hy; cases hy; exact absurd hdy hd
  · cases hs : x.op.state with
    | false =>
      refine ⟨b, hb, fun k y hk hy hys => .inl (hb1 k y hk hy hys), fun k y hk hy hys h => ?_, by rw [hs2 hs, hb3]⟩
      rcases h with h | h
      · exact hb2 k y hk hy hys h
      · subst h; rw [hx] at hy; cases hy; rw [hs] at hys; cases hys
    | true =>
      refine ⟨i + 1, by omega, fun k y hk hy hys => ?_, fun k y hk hy hys h => ?_, hs1 hs⟩
      · by_cases e : k = i
        · exact .inr e
        · refine .inl (Classical.byContradiction fun hX => ?_)
          have := (hlow' k y (by omega) hy hX).2.2.2.1
          simp [hys, hs] at this
      · rcases h with h | h
        · have := (hhigh' k y (by omega) hy h).2.2.2.1
          simp [hys, hs] at this
        · omega

end
end Go.Proofs.YtdhgdpokdhjanaaGreat.Abs
/- Regions whose order is open: in whatever order. -/
namespace Go.Proofs.YtdhgdpokdhjanaaGreat.Abs
open Go

section
variable {P : Program} {fm : Nat → Nat} {nt : Nat} {g g' g'' : Gh} {s s' s'' t : ASt} {A A' A'' B : Frame} {a a' a'' : Act} {w w' w'' : World} {call : CallFn}
variable {aos : List AOper} {ops : Array Oper} {T : Nat → Frame × ASt} {masks : List Nat} {pairs : List (Nat × Nat)}

theorem count_set (l : List Bool) (i : Nat) (h : l[i]? = some false) : (l.set i true).count false + 1 = l.count false := by
  induction l generalizing i with
  | nil => simp at h
  | cons b l ih =>
    cases i with
    | zero =>
      simp only [List.getElem?_cons_zero, Option.some.injEq] at h
      subst h
      simp
    | succ i =>
      have := ih i (by simpa using h)
      simp only [List.set_cons_succ, List.count_cons]
      omega

theorem Sim.drew (h : Sim fm s g w) (k : Nat) : Sim fm s g { w with drawn := k } :=
  ⟨h.size, h.objs, h.objn, h.st, h.mst, h.fresh⟩

theorem any_sound {r : Option Nat} {m : Nat} (hcall : CallSound P fm call) (hok : okOpers P fm nt ops aos ops.toList = true) (hT : ∀ i o, aos[i]? = some o → OperStep call o (T i).1 (T i).2 (T (i + 1)).1 (T (i + 1)).2)
    (hm : masksOk masks 0 ops.toList masks = true) (hp : pairsGood masks pairs aos = true)
    (hpairs : ∀ j l o, (j, l) ∈ pairs → aos[l]? = some o → wanted (T l).1 o.guard = some false ∨ ReadsEq o.op (T l).1 (T j).2 (T (j + 1)).2)
    {Q : Exit → Act → World → Prop} (hQ : ∀ a' w' g', RPost fm nt g w s (T aos.length).2 (T aos.length).1 a a' g' w' → Q .normal a' w') :
    ∀ (fuel : Nat) (listed : Array Bool) (B : Frame) (t : ASt) (g1 : Gh) (w1 : World) (a1 : Act), listed.size = ops.size → listed.toList.count false ≤ fuel → Mid aos ops.toList T (fun k => listed.getD k false = true) B t →
      RPost fm nt g w s t B a a1 g1 w1 → wpAnyIn (FW r) m P .any ops Q fuel listed a1 w1 := by
  obtain ⟨hlen, hget⟩ := okOpers_get hok
  have hlen' : aos.length = ops.size := by simpa using hlen
  -- when nothing is ready, all is done
  have done : ∀ (listed : Array Bool) (B : Frame) (t : ASt) (g1 : Gh) (w1 : World) (a1 : Act), listed.size = ops.size → Mid aos ops.toList T (fun k => listed.getD k false = true) B t →
      RPost fm nt g w s t B a a1 g1 w1 → (∀ k, k < ops.size → listed.getD k false = true) → Q .normal a1 w1 := by
    intro listed B t g1 w1 a1 hsz hM hR hall
    have hframe : ∀ d, B.get d = (T aos.length).1.get d := fun d => hM.frame d aos.length (Nat.le_refl _)
      (fun k x hk hx hd => hall k (by omega)) (fun k x hk hx hd => by have := (List.getElem?_eq_some_iff.1 hx).1; omega)
    obtain ⟨b, hb, hb1, hb2, hb3⟩ := hM.state
    have hst : (T aos.length).2 = t := by
      rw [hb3]
      refine calm_between hT hb (Nat.le_refl _) (fun k x h1 h2 hx => ?_)
      cases hxs : x.op.state
      · rfl
      · exact absurd (hall k (by omega)) (hb2 k x h1 hx hxs)
    refine hQ a1 w1 g1 ⟨by rw [hst]; exact hR.sim, hR.le, by rw [hst]; exact hR.n, hR.kept, ?_, hR.defers⟩
    rw [hst]
    exact hR.frame.sub (fun d => .inr (hframe d).symm)
  have ready_all : ∀ (listed : Array Bool), listed.size = ops.size → Region.ready .any ops listed = [] → ∀ k, k < ops.size → listed.getD k false = true := by
    intro listed hsz hr k
    induction k using Nat.strongRecOn with
    | _ k ih =>
      intro hk
      by_cases hl : listed.getD k false = true
      · exact hl
      · exfalso
        have hmem : k ∈ Region.ready .any ops listed := by
          rw [mem_ready]
          refine ⟨?_, ops[k], by simp [hk], fun e he hb => ?_⟩
          · have hkl : k < listed.size := by omega
            simp [hkl] at hl ⊢
            exact hl
          · have := (masksOk_get hm k ops[k] (by simp [hk])).2 e he hb
            exact ih e.on (by omega) (by omega)
        rw [hr] at hmem
        cases hmem
  intro fuel
  induction fuel with
  | zero =>
    intro listed B t g1 w1 a1 hsz hc hM hR
    have hall : ∀ k, k < ops.size → listed.getD k false = true := by
      intro k hk
      have hkl : k < listed.size := by omega
      have h0 : listed.toList.count false = 0 := by omega
      rw [List.count_eq_zero] at h0
      cases hb : listed[k]
      · exact absurd (by rw [← hb]; simp) h0
      · simp [hkl, hb]
    refine ⟨?_, done listed B t g1 w1 a1 hsz hM hR hall⟩
    cases hr : Region.ready .any ops listed with
    | nil => rfl
    | cons k l =>
      have hk : k ∈ Region.ready .any ops listed := by rw [hr]; simp
      rw [mem_ready] at hk
      obtain ⟨h0, o, ho, _⟩ := hk
      have hk := (Array.getElem?_eq_some_iff.1 ho).1
      have := hall k hk
      have hkl : k < listed.size := by omega
      simp [hkl] at h0 this
      rw [h0] at this
      cases this
  | succ fuel ih =>
    intro listed B t g1 w1 a1 hsz hc hM hR
    refine ⟨fun hr => done listed B t g1 w1 a1 hsz hM hR (ready_all listed hsz hr), fun i hi => ?_⟩
    rw [mem_ready] at hi
    obtain ⟨h0, o, ho, hr⟩ := hi
    have hil := (Array.getElem?_eq_some_iff.1 ho).1
    have hlf : listed[i]? = some false := by
      have hkl : i < listed.size := by omega
      simp [hkl] at h0 ⊢
      exact h0
    obtain ⟨x, hx, hox⟩ := hget i o (by simpa using ho)
    obtain ⟨B', t', hst, hM'⟩ := mid_step hlen hT hm hp hpairs hM (i := i) (o := o) (x := x) (by simpa using ho) hx (by
      rw [Array.getD_eq_getD_getElem?, hlf]; simp) hr
    obtain ⟨b, hw, hst⟩ := hst
    refine oper_sound hcall hR.sim hR.frame hox hw hst ho (fun a2 w2 g2 hp2 => ?_)
    refine ih _ B' t' g2 w2 a2 (by simp [hsz]) ?_ ?_ (hR.trans hp2)
    · rw [Array.toList_setIfInBounds]
      have := count_set listed.toList i (by simpa using hlf)
      omega
    · have : (fun k => (listed.setIfInBounds i true).getD k false = true) = fun k => listed.getD k false = true ∨ k = i := by
        funext k
        by_cases e : k = i
        · subst e
          have hkl : k < listed.size := by omega
          simp [hkl]
        · rw [getD_set_ne false (Ne.symm e)]
          simp [e]
      rw [this]
      exact hM'

theorem draw_sound {r : Option Nat} {m : Nat} (hcall : CallSound P fm call) (hmx : P.follows .mixedOrders = true) (hok : okOpers P fm nt ops aos ops.toList = true) (hdr : okDraw pairs aos ops.toList = true)
    {id : Nat} {keep : List Nat} (hS : Sim fm s g w) (hF : FrameRep fm g s.n nt A a.tmps) (h : exDraw call pairs aos A s = some (A', s')) {Q : Exit → Act → World → Prop}
    (hQ : ∀ a' w' g', RPost fm nt g w s s' (A'.keep keep) a a' g' w' → Q .normal a' w') : (Code.region id ops true).wpIn (FW r) m P Q a w := by
  simp only [okDraw, Bool.and_eq_true] at hdr
  simp only [exDraw] at h
  obtain ⟨tr, htr, h⟩ := bind_some' h
  by_cases hpr : pairs.all (pairOk aos tr) = true
  case neg => rw [if_neg hpr] at h; cases h
  rw [if_pos hpr] at h
  obtain ⟨q1, q2, q3⟩ := exTrace_steps _ _ _ _ htr
  obtain ⟨hlen, _⟩ := okOpers_get hok
  have hlen' : aos.length = ops.size := by simpa using hlen
  let T : Nat → Frame × ASt := fun i => tr.getD i ([], ⟨0, []⟩)
  have hT0 : T 0 = (A, s) := by simp [T, List.getD_eq_getElem?_getD, q2]
  have htr' : ∀ i, i < aos.length + 1 → tr[i]? = some (T i) := fun i hi => by
    have : i < tr.length := by omega
    simp [T, this]
  have hTn : T aos.length = (A', s') := by
    have := htr' aos.length (by omega)
    rw [List.getLast?_eq_getElem?, q1, Nat.add_sub_cancel, this] at h
    simpa using h
  refine wpIn_region_any hmx ?_
  refine any_sound (T := T) (g := g) (w := { w with drawn := w.drawn + 1 }) (s := s) (a := a) hcall hok (fun i o ho => ?_) hdr.1 hdr.2 (fun j l o hjl ho => ?_) (fun a' w' g' hp => ?_) ops.size _ A s g _ a (by simp) ?_ ?_ ?_
  · have hi := (List.getElem?_eq_some_iff.1 ho).1
    exact q3 i o _ _ _ _ ho (htr' i (by omega)) (htr' (i + 1) (by omega))
  · rw [List.all_eq_true] at hpr
    have := hpr (j, l) hjl
    simp only [pairOk] at this
    split at this
    · rename_i A1 s1 A2 s2 A3 s3 o' e1 e2 e3 e4
      rw [ho] at e4
      cases e4
      have hT1 : T j = (A1, s1) := by simp [T, List.getD_eq_getElem?_getD, e1]
      have hT2 : T (j + 1) = (A2, s2) := by simp [T, List.getD_eq_getElem?_getD, e2]
      have hT3 : T l = (A3, s3) := by simp [T, List.getD_eq_getElem?_getD, e3]
      rw [hT1, hT2, hT3]
      simp only [Bool.or_eq_true, beq_iff_eq] at this
      exact this.imp (fun h => h) readsSame_eq
    · cases this
  · rw [hTn] at hp
    exact hQ a' w' g' ⟨hp.sim, hp.le, hp.n, ⟨hp.kept.blk, hp.kept.os, hp.kept.out, hp.kept.mst⟩, hp.frame.keeps keep, hp.defers⟩
  · simp
  · refine ⟨fun i o ho hX => ?_, fun d i hi h1 h2 => ?_, 0, Nat.zero_le _, fun k x hk => by omega, fun k x hk hx hs hX => ?_, by rw [hT0]⟩
    · have hX : (Array.replicate ops.size false).getD i false = true := hX
      simp only [Array.getD_eq_getD_getElem?, Array.getElem?_replicate] at hX
      split at hX <;> simp at hX
    · have hno : ∀ k x, k < i → aos[k]? = some x → d ∉ x.writes := fun k x hk hx hd => by
        have hX := h1 k x hk hx hd
        simp only [Array.getD_eq_getD_getElem?, Array.getElem?_replicate] at hX
        split at hX <;> simp at hX
      have hTs : ∀ i o, aos[i]? = some o → OperStep call o (T i).1 (T i).2 (T (i + 1)).1 (T (i + 1)).2 := fun i o ho => by
        have hi := (List.getElem?_eq_some_iff.1 ho).1
        exact q3 i o _ _ _ _ ho (htr' i (by omega)) (htr' (i + 1) (by omega))
      rw [putless hTs (Nat.zero_le i) hi (fun k x _ hk hx => hno k x hk hx), hT0]
    · have hX : (Array.replicate ops.size false).getD k false = true := hX
      simp only [Array.getD_eq_getD_getElem?, Array.getElem?_replicate] at hX
      split at hX <;> simp at hX
  · exact ⟨hS.drew _, le.refl _ _, Nat.le_refl _, Kept.refl _ _, hF, rfl⟩

end
end Go.Proofs.YtdhgdpokdhjanaaGreat.Abs
/- Whole functions. -/
namespace Go.Proofs.YtdhgdpokdhjanaaGreat.Abs
open Go

section
variable (P : Program) (fm : Nat → Nat) (nt : Nat)

def okCode : ACode → Code → Bool
  | .skip, .skip => true
  | .region none aos _, .region _ ops false => okOpers P fm nt ops aos ops.toList
  | .region (some pairs) aos _, .region _ ops true => okOpers P fm nt ops aos ops.toList && okDraw pairs aos ops.toList
  | .seq a b, .seq x y => okCode a x && okCode b y
  | .cond c a b, .cond d x y => okOpd fm c d && okCode a x && okCode b y
  | .block i a, .block j x => i == j && okCode a x
  | .loop a _, .loop x => okCode a x
  | .exit i, .exit j => i == j
  | .ret, .ret => true
  | .bad, _ => true
  | _, _ => false

def resOk : ARes → ResultVar → Bool
  | .slot d, .tmp t => d == t
  | .cell d n agg, .cell a t => d == a && aggIs P t agg && sizeIs P t n
  | _, _ => false
def resOks : List ARes → List ResultVar → Bool
  | [], [] => true
  | r :: l, q :: m => resOk P r q && resOks l m
  | _, _ => false
end

def AExit.real : AExit → Exit
  | .normal => .normal
  | .exit id => .exit id
  | .ret => .ret

def LoopSound (P : Program) (fm : Nat → Nat) (nt : Nat) (j : Nat) (loop : LoopFn) : Prop :=
  ∀ b keep A s e A' s', loop b keep A s = some (e, A', s') → ∀ c, okCode P fm nt b c = true → ∀ (g : Gh) (w : World) (a : Act), Sim fm s g w → FrameRep fm g s.n nt A a.tmps →
    ∀ (r : Option Nat) (m : Nat) (Q : Exit → Act → World → Prop), (∀ a' w' g', RPost fm nt g w s s' A' a a' g' w' → Q e.real a' w') → Code.roundsIn (FW r) m P c Q j a w

section
variable {P : Program} {fm : Nat → Nat} {nt : Nat} {g g' g'' : Gh} {s s' s'' t : ASt} {A A' A'' B : Frame} {a a' a'' : Act} {w w' w'' : World} {call : CallFn} {loop : LoopFn}

theorem exec_sound {j : Nat} (hmx : P.follows .mixedOrders = true) (hcall : CallSound P fm call) (hloop : LoopSound P fm nt j loop) {r : Option Nat} {m : Nat} : ∀ (ac : ACode) (c : Code) (A : Frame) (s : ASt) (g : Gh) (w : World) (a : Act) (e : AExit) (A' : Frame) (s' : ASt)
    (Q : Exit → Act → World → Prop), okCode P fm nt ac c = true → Sim fm s g w → FrameRep fm g s.n nt A a.tmps → exec call loop ac A s = some (e, A', s') →
    (∀ a' w' g', RPost fm nt g w s s' A' a a' g' w' → Q e.real a' w') → c.wpIn (FW r) m P Q a w
  | .skip, c, A, s, g, w, a, e, A', s', Q, hok, hS, hF, h, hQ => by
    cases c <;> simp only [okCode, Bool.false_eq_true] at hok
    cases h
    exact wpIn_skip (hQ _ _ _ ⟨hS, le.refl _ _, Nat.le_refl _, Kept.refl _ _, hF, rfl⟩)
  | .region none aos keep, c, A, s, g, w, a, e, A', s', Q, hok, hS, hF, h, hQ => by
    cases c <;> try (simp only [okCode, Bool.false_eq_true] at hok; done)
    rename_i id ops d
    cases d <;> simp only [okCode, Bool.false_eq_true] at hok
    simp only [exec] at h
    obtain ⟨⟨A1, s1⟩, h1, h2⟩ := map_some' h
    cases h2
    exact region_sound hcall hok hS hF h1 hQ
  | .region (some pairs) aos keep, c, A, s, g, w, a, e, A', s', Q, hok, hS, hF, h, hQ => by
    cases c <;> try (simp only [okCode, Bool.false_eq_true] at hok; done)
    rename_i id ops d
    cases d <;> simp only [okCode, Bool.false_eq_true, Bool.and_eq_true] at hok
    simp only [exec] at h
    obtain ⟨⟨A1, s1⟩, h1, h2⟩ := map_some' h
    cases h2
    exact draw_sound hcall hmx hok.1 hok.2 hS hF h1 hQ
  | .seq x y, c, A, s, g, w, a, e, A', s', Q, hok, hS, hF, h, hQ => by
    cases c <;> simp only [okCode, Bool.false_eq_true, Bool.and_eq_true] at hok
    simp only [exec] at h
    obtain ⟨⟨e1, A1, s1⟩, h1, h2⟩ := bind_some' h
    refine wpIn_seq (exec_sound hmx hcall hloop x _ A s g w a e1 A1 s1 _ hok.1 hS hF h1 (fun a1 w1 g1 hp => ?_))
    cases e1 with
    | normal =>
      exact exec_sound hmx hcall hloop y _ A1 s1 g1 w1 a1 e A' s' _ hok.2 hp.sim hp.frame h2 (fun a2 w2 g2 hp2 => hQ _ _ _ (hp.trans hp2))
    | exit id => cases h2; exact hQ _ _ _ hp
    | ret => cases h2; exact hQ _ _ _ hp
  | .cond x y z, c, A, s, g, w, a, e, A', s', Q, hok, hS, hF, h, hQ => by
    cases c <;> simp only [okCode, Bool.false_eq_true, Bool.and_eq_true] at hok
    simp only [exec] at h
    have hc := okOpd_rep hF hok.1.1
    split at h
    · rename_i b hb
      rw [hb] at hc
      have hv := Rep.bool_inv hc
      refine wpIn_cond hv ?_
      cases b with
      | true =>
        simp only [if_true] at h ⊢
        exact exec_sound hmx hcall hloop y _ A s g w a e A' s' _ hok.1.2 hS hF h hQ
      | false =>
        simp only [Bool.false_eq_true, if_false] at h ⊢
        exact exec_sound hmx hcall hloop z _ A s g w a e A' s' _ hok.2 hS hF h hQ
    · cases h
  | .block id x, c, A, s, g, w, a, e, A', s', Q, hok, hS, hF, h, hQ => by
    cases c <;> simp only [okCode, Bool.false_eq_true, Bool.and_eq_true, beq_iff_eq] at hok
    obtain ⟨rfl, hok⟩ := hok
    simp only [exec] at h
    obtain ⟨⟨e1, A1, s1⟩, h1, h2⟩ := map_some' h
    cases h2
    refine wpIn_block (exec_sound hmx hcall hloop x _ A s g w a e1 _ _ _ hok hS hF h1 (fun a1 w1 g1 hp => ?_))
    have := hQ a1 w1 g1 hp
    cases e1 with
    | normal => simpa [Exit.inBlock, AExit.real] using this
    | exit id' =>
      simp only [Exit.inBlock, AExit.real, AExit.exit.injEq] at this ⊢
      by_cases hid : id' = id
      · simpa [hid] using this
      · simpa [hid] using this
    | ret => simpa [Exit.inBlock, AExit.real] using this
  | .loop x keep, c, A, s, g, w, a, e, A', s', Q, hok, hS, hF, h, hQ => by
    cases c <;> simp only [okCode, Bool.false_eq_true] at hok
    exact wpIn_loop_rounds j (hloop x keep A s e A' s' h _ hok g w a hS hF r m Q hQ)
  | .exit id, c, A, s, g, w, a, e, A', s', Q, hok, hS, hF, h, hQ => by
    cases c <;> simp only [okCode, Bool.false_eq_true, beq_iff_eq] at hok
    cases h
    subst hok
    exact wpIn_exit (hQ _ _ _ ⟨hS, le.refl _ _, Nat.le_refl _, Kept.refl _ _, hF, rfl⟩)
  | .ret, c, A, s, g, w, a, e, A', s', Q, hok, hS, hF, h, hQ => by
    cases c <;> simp only [okCode, Bool.false_eq_true] at hok
    cases h
    exact wpIn_ret (hQ _ _ _ ⟨hS, le.refl _ _, Nat.le_refl _, Kept.refl _ _, hF, rfl⟩)
  | .bad, _, _, _, _, _, _, _, _, _, _, _, _, _, h, _ => by cases h

theorem keepF_sound {n : Nat} (hS : Sim fm s g w) (hn : n ≤ s.n) (hF : FrameRep fm g s.n nt A a.tmps) : ∀ {ds : List Nat} {B : Frame}, keepF n s A ds = some B → FrameRep fm (g.frozen n w) n nt B a.tmps
  | [], B, h => by
    cases h
    exact ⟨hF.1, fun d hd => absurd rfl hd⟩
  | k :: ds, B, h => by
    simp only [keepF] at h
    obtain ⟨v, hv, h⟩ := bind_some' h
    obtain ⟨C, hC, h⟩ := bind_some' h
    cases h
    have ih := keepF_sound hS hn hF hC
    refine ⟨hF.1, fun d hd => ?_⟩
    by_cases hk : k = d
    · subst hk
      have e : Frame.get ((k, v) :: C) k = v := by simp [Frame.get]
      rw [e] at hd ⊢
      have hu : A.get k ≠ .undef := by
        intro hu
        rw [hu] at hv
        unfold fz depth at hv
        simp [AVal.under] at hv
        exact hd hv.symm
      obtain ⟨cv, h1, h2⟩ := hF.2 k hu
      exact ⟨cv, h1, fz_slot hS hn (by simp) h2 hv⟩
    · have e : Frame.get ((k, v) :: C) d = Frame.get C d := by simp [Frame.get, hk]
      rw [e] at hd ⊢
      exact ih.2 d hd

theorem stepLoop_sound {j : Nat} (hmx : P.follows .mixedOrders = true) (hcall : CallSound P fm call) (hloop : LoopSound P fm nt j loop) : LoopSound P fm nt (j + 1) (stepLoop call loop) := by
  intro b keep A s e A' s' h c hok g w a hS hF r m Q hQ
  simp only [stepLoop] at h
  obtain ⟨⟨e1, A1, s1⟩, h1, h2⟩ := bind_some' h
  rw [roundsIn_succ]
  refine exec_sound hmx hcall hloop b c _ s g w a e1 A1 s1 _ hok hS (hF.keeps keep) h1 (fun a1 w1 g1 hp => ?_)
  cases e1 with
  | normal =>
    simp only at h2
    by_cases hn : s1.n = s.n
    · rw [if_pos hn] at h2
      exact hloop b keep A1 s1 e A' s' h2 c hok _ _ _ hp.sim hp.frame r m Q (fun a2 w2 g2 hp2 => hQ _ _ _ (hp.trans hp2))
    rw [if_neg hn] at h2
    obtain ⟨B, hB, h2⟩ := bind_some' h2
    have hS' := hp.sim.frozen hp.n
    have hF' := keepF_sound hp.sim hp.n hp.frame hB
    have hp' : RPost fm nt g w s (s1.trunc s.n) B a a1 (g1.frozen s.n w1) w1 := ⟨hS', hp.le.trans ((frozen_le hp.sim _)), Nat.le_refl _, hp.kept.trans (frozen_kept _), hF', hp.defers⟩
    exact hloop b keep B (s1.trunc s.n) e A' s' h2 c hok _ _ _ hS' hF' r m Q (fun a2 w2 g2 hp2 => hQ _ _ _ (hp'.trans hp2))
  | exit id => cases h2; exact hQ _ _ _ hp
  | ret => cases h2; exact hQ _ _ _ hp

/-- What is read of one result variable. -/
def resOf (tmps : Array Value) : ResultVar → Sem Value
  | .tmp t => pure (tmps.getD t undef)
  | .cell a t => do loadVar t (← asAddr (tmps.getD a undef))

theorem tmp_val (hF : FrameRep fm g s.n nt A a.tmps) (d : Nat) : SlotRep fm g s.n (.slot d) (A.get d) (a.tmps.getD d undef) := by
  by_cases hu : A.get d = .undef
  · rw [hu]; exact Rep.undef _
  · obtain ⟨v, hv, hs⟩ := hF.2 d hu
    have hlt : d < a.tmps.size := (Array.getElem?_eq_some_iff.1 hv).1
    have : a.tmps.getD d undef = v := by simp [Array.getD, hlt, (Array.getElem?_eq_some_iff.1 hv).2]
    rw [this]
    exact hs

theorem resOf_run (hS : Sim fm s g w) (hF : FrameRep fm g s.n nt A a.tmps) {r : ARes} {q : ResultVar} (hok : resOk P r q = true) {v : AVal} (h : result A s r = some v) :
    ∃ cv, (resOf a.tmps q).run P w = .ok cv w ∧ ∃ t, SlotRep fm g s.n t v cv ∧ (t = .res ∨ ∃ d, r = .slot d ∧ t = .slot d) := by
  cases r with
  | slot d =>
    cases q <;> simp only [resOk, Bool.false_eq_true, beq_iff_eq] at hok
    subst hok
    cases h
    exact ⟨_, rfl, .slot d, tmp_val hF d, .inr ⟨d, rfl, rfl⟩⟩
  | cell d n agg =>
    cases q <;> simp only [resOk, Bool.false_eq_true, Bool.and_eq_true, beq_iff_eq] at hok
    obtain ⟨⟨rfl, h1⟩, h2⟩ := hok
    simp only [result] at h
    have hr := (tmp_val hF d).strip
    generalize hcx : a.tmps.getD d undef = cx at hr
    obtain ⟨cv, e1, e2⟩ := load_run (P := P) (tg := .res) hS hr h1 h2 h
    refine ⟨cv, ?_, .res, e2, .inl rfl⟩
    have : ∃ ad, cx = .pointer (some ad) := by
      generalize (A.get d).strip = x at h hr
      cases x <;> simp only [loadAt] at h <;> try (cases h; done)
      · cases hr; exact ⟨_, rfl⟩
      · cases hr; exact ⟨_, rfl⟩
    obtain ⟨ad, rfl⟩ := this
    rw [← e1]
    simp only [resOf, asAddr, hcx, Instr.loadAt, Instr.sureAddr, Sem.run_bind, Sem.run_pure, Result.andThen_ok]

theorem resOf_list (hS : Sim fm s g w) (hF : FrameRep fm g s.n nt A a.tmps) : ∀ {rs : List ARes} {qs : List ResultVar} {l : List AVal}, resOks P rs qs = true → rs.mapM (result A s) = some l →
    ∃ cvs, (qs.mapM (resOf a.tmps)).run P w = .ok cvs w ∧ RepL fm g s.n (l.map AVal.strip) cvs
  | [], [], l, _, h => by
    simp at h
    subst h
    exact ⟨[], rfl, .nil⟩
  | r :: rs, q :: qs, l, hok, h => by
    simp only [resOks, Bool.and_eq_true] at hok
    simp only [List.mapM_cons] at h
    obtain ⟨v, hv, h⟩ := bind_some' h
    obtain ⟨l', hl, h⟩ := bind_some' h
    cases h
    obtain ⟨cv, e1, t, e2, _⟩ := resOf_run hS hF hok.1 hv
    obtain ⟨cvs, f1, f2⟩ := resOf_list hS hF hok.2 hl
    refine ⟨cv :: cvs, ?_, .cons _ _ _ _ e2.strip f2⟩
    simp only [List.mapM_cons, Sem.run_bind, e1, Result.andThen_ok, f1, Sem.run_pure]
  | [], _ :: _, _, h, _ => by simp [resOks] at h
  | _ :: _, [], _, h, _ => by simp [resOks] at h

theorem results_eq (fn : Func) (tmps : Array Value) : Go.results fn tmps = (do
    let vs ← fn.results.toList.mapM (resOf tmps)
    pure (if h : vs.toArray.size = 1 then vs.toArray[0] else .tuple vs.toArray)) := by
  unfold Go.results
  rw [Array.mapM_eq_mapM_toList]
  simp only [map_eq_pure_bind, bind_assoc, pure_bind]
  congr 1

theorem results_sound (hS : Sim fm s g w) (hF : FrameRep fm g s.n nt A a.tmps) {fn : Func} {rs : List ARes} (hok : resOks P rs fn.results.toList = true) {v : AVal} (h : Abs.results A s rs = some v) :
    ∃ cv g', (Go.results fn a.tmps).run P w = .ok cv w ∧ Sim fm s g' w ∧ le s.n g g' ∧ Kept g g' w w ∧ SlotRep fm g' s.n .res v cv := by
  rw [results_eq]
  have tuple : ∀ rs, resOks P rs fn.results.toList = true → rs.length ≠ 1 → (rs.mapM (result A s)).map (fun l => AVal.tup (l.map AVal.strip)) = some v → ∃ cv g', (do
      let vs ← fn.results.toList.mapM (resOf a.tmps)
      pure (if h : vs.toArray.size = 1 then vs.toArray[0] else .tuple vs.toArray) : Sem Value).run P w = .ok cv w ∧ Sim fm s g' w ∧ le s.n g g' ∧ Kept g g' w w ∧ SlotRep fm g' s.n .res v cv := by
    intro rs hok hlen h
    obtain ⟨l, hl, rfl⟩ := map_some' h
    obtain ⟨cvs, e1, e2⟩ := resOf_list hS hF hok hl
    have hne : cvs.length ≠ 1 := by
      rw [← e2.length, List.length_map, ← (mapM_some hl).1]; exact hlen
    refine ⟨.tuple cvs.toArray, g, ?_, hS, le.refl _ _, Kept.refl _ _, Rep.slot (.tup _ _ e2)⟩
    simp only [Sem.run_bind, e1, Result.andThen_ok, Sem.run_pure]
    rw [dif_neg (by simpa using hne)]
  rcases rs with _ | ⟨r, _ | ⟨r2, rs⟩⟩
  · exact tuple [] hok (by simp) h
  rotate_left
  · exact tuple _ hok (by simp) h
  · simp only [Abs.results] at h
    obtain ⟨v0, hv0, hv⟩ := map_some' h
    clear h tuple
    obtain ⟨q, hq⟩ : ∃ q, fn.results.toList = [q] := by
      generalize fn.results.toList = qs at hok
      match qs, hok with
      | [q], _ => exact ⟨q, rfl⟩
      | [], hok => simp [resOks] at hok
      | _ :: _ :: _, hok => simp [resOks] at hok
    rw [hq] at hok ⊢
    simp only [resOks, Bool.and_true] at hok
    obtain ⟨cv, e1, t, e2, e3⟩ := resOf_run hS hF hok hv0
    have hrun : (do
        let vs ← [q].mapM (resOf a.tmps)
        pure (if h : vs.toArray.size = 1 then vs.toArray[0] else .tuple vs.toArray) : Sem Value).run P w = .ok cv w := by
      simp [List.mapM_cons, Sem.run_bind, e1, Result.andThen_ok, Sem.run_pure]
    -- what is not owned is the same for whom ever
    have plain : (∀ cs n z, v0 ≠ .sl cs n (.mine z)) → SlotRep fm g s.n .res v cv := by
      intro hn
      rw [← hv]
      clear hv hv0
      cases v0
      case sl cs n o =>
        cases o with
        | none => exact e2
        | exact => exact e2
        | moved => exact e2
        | loc r c => exact e2.1
        | mine z => exact absurd rfl (hn cs n z)
      all_goals exact e2
    by_cases hm : ∃ cs n z, v0 = .sl cs n (.mine z)
    · obtain ⟨cs, n, z, rfl⟩ := hm
      simp only at hv
      subst hv
      rcases e3 with rfl | ⟨d, rfl, rfl⟩
      · exact ⟨cv, g, hrun, hS, le.refl _ _, Kept.refl _ _, e2⟩
      · obtain rfl : q = .tmp d := by
          cases q <;> simp only [resOk, Bool.false_eq_true, beq_iff_eq] at hok
          rw [hok]
        have hd : A.get d = .sl cs n (.mine z) := by simpa [result] using hv0
        have hcv : cv = a.tmps.getD d undef := by
          simp only [resOf, Sem.run_pure] at e1
          cases e1; rfl
        obtain ⟨g', q1, q2, q3, q4, q5, _⟩ := taken_sound (x := .tmp d) (y := .tmp d) (a := a) hS hF (by simp [okOpd]) (v := .sl cs n (.mine z)) (A' := A.put d (.sl cs n .none)) (by simp [Opd.taken, hd])
        refine ⟨cv, g', hrun, q1, q2, q3, ?_⟩
        rw [hcv]
        exact q5
    · exact ⟨cv, g, hrun, hS, le.refl _ _, Kept.refl _ _, plain (fun cs n z e => hm ⟨cs, n, z, e⟩)⟩

end
end Go.Proofs.YtdhgdpokdhjanaaGreat.Abs
/- The abstract machine is sound. -/
namespace Go.Proofs.YtdhgdpokdhjanaaGreat.Abs
open Go

def okFunc (P : Program) (fm : Nat → Nat) (af : AFunc) (fn : Func) : Bool :=
  match fn.body with
  | some c => okCode P fm fn.ntmps af.code c && resOks P af.results fn.results.toList && decide (af.params ≤ fn.ntmps) && !(fn.name == "runtime.NumGoroutine")
  | none => false

structure Sound (P : Program) (fm : Nat → Nat) (C : Cfg) : Prop where
  mixed : P.follows .mixedOrders = true
  few : P.funcs.size ≤ 1000000
  funcs : ∀ i af, C.funcs i = some af → C.ext i = none → ∃ fn, P.funcs[fm i]? = some fn ∧ okFunc P fm af fn = true
  ext : CallSound P fm (fun f args s => match C.ext f with | some h => h args s | none => none)

section
variable {P : Program} {fm : Nat → Nat} {nt : Nat} {g g' g'' : Gh} {s s' s'' t : ASt} {A A' A'' B : Frame} {a a' a'' : Act} {w w' w'' : World} {call : CallFn} {loop : LoopFn} {C : Cfg}

theorem params_get (n : Nat) : ∀ (args : List AVal) (k d : Nat), Frame.get (params k args) d = if k ≤ d ∧ d < k + args.length then args.getD (d - k) .undef else .undef
  | [], k, d => by simp [params, Frame.get]
  | v :: r, k, d => by
    simp only [params, Frame.get]
    by_cases h : k = d
    · subst h; simp
    · rw [if_neg h, params_get n r (k + 1) d]
      by_cases h2 : k + 1 ≤ d ∧ d < k + 1 + r.length
      · rw [if_pos h2, if_pos (by simp only [List.length_cons]; omega)]
        rw [show d - k = (d - (k + 1)) + 1 from by omega]
        rfl
      · rw [if_neg h2, if_neg (by simp only [List.length_cons]; omega)]

theorem params_frame {args : List AVal} {vs : Array Value} (hR : RepL fm g s.n args vs.toList) (hn : args.length ≤ nt) :
    FrameRep fm g s.n nt (params 0 args) (vs ++ Array.replicate (nt - vs.size) undef) := by
  have hl : args.length = vs.size := by simpa using hR.length
  refine ⟨by simp; omega, fun d hd => ?_⟩
  rw [params_get 0] at hd ⊢
  by_cases h : 0 ≤ d ∧ d < 0 + args.length
  · rw [if_pos h] at hd ⊢
    have hlt : d < args.length := by omega
    obtain ⟨v, h1, h2⟩ := hR.get d args[d] (by simp [hlt])
    have hlt' : d < vs.size := by omega
    refine ⟨v, ?_, ?_⟩
    · rw [Array.getElem?_append_left hlt']
      simpa using h1
    · simp only [Nat.sub_zero, List.getD_eq_getElem?_getD, hlt, List.getElem?_eq_getElem, Option.getD_some]
      exact h2.slot
  · rw [if_neg h] at hd
    exact absurd rfl hd

theorem stepCall_sound {j : Nat} (hC : Sound P fm C) (hcall : CallSound P fm call) (hloop : ∀ nt, LoopSound P fm nt j loop) : CallSound P fm (stepCall C call loop) := by
  intro f args s v s' h
  simp only [stepCall] at h
  cases hx : C.ext f with
  | some e =>
    rw [hx] at h
    have := hC.ext f args s v s' (by simp only [hx]; exact h)
    exact this
  | none =>
    rw [hx] at h
    simp only at h
    cases hf : C.funcs f with
    | none => rw [hf] at h; cases h
    | some af =>
      rw [hf] at h
      simp only [runBody] at h
      obtain ⟨fn, hfn, hok⟩ := hC.funcs f af hf hx
      unfold okFunc at hok
      cases hbody : fn.body with
      | none => rw [hbody] at hok; cases hok
      | some c =>
      rw [hbody] at hok
      simp only [Bool.and_eq_true, decide_eq_true_eq, Bool.not_eq_true'] at hok
      obtain ⟨⟨⟨hok1, hok2⟩, hok3⟩, hok4⟩ := hok
      refine ⟨⟨Nat.lt_of_lt_of_le (Array.getElem?_eq_some_iff.1 hfn).1 hC.few, fn, hfn, by simp [hbody], hok4⟩, ?_⟩
      by_cases hlen : args.length = af.params
      case neg => rw [if_neg hlen] at h; cases h
      rw [if_pos hlen] at h
      obtain ⟨⟨e, A1, s1⟩, hex, h⟩ := bind_some' h
      intro g w vs m hS hR
      refine callsIn_of_wp hfn hbody trivial ?_ rfl
      have hF := params_frame (nt := fn.ntmps) hR (by omega)
      refine exec_sound hC.mixed hcall (hloop fn.ntmps) af.code c _ s g w _ e A1 s1 _ hok1 hS hF hex (fun a1 w1 g1 hp => ?_)
      have key : ∀ (hres : (do
            let v ← Abs.results A1 s1 af.results
            if af.live ∨ s1.n = s.n then some (v, s1) else do
            let v ← fz s.n s1 depth v
            some (v, s1.trunc s.n)) = some (v, s')), a1.defers = [] ∧ ∃ cv, (Go.results fn a1.tmps).run P w1 = .ok cv w1 ∧ CallPost fm g w s s' v (.returned cv) w1 := by
        intro hres
        obtain ⟨v0, hv0, hres⟩ := bind_some' hres
        obtain ⟨cv, g2, q1, q2, q3, q4, q5⟩ := results_sound hp.sim hp.frame hok2 hv0
        by_cases hlive : af.live = true ∨ s1.n = s.n
        · rw [if_pos hlive] at hres
          cases hres
          exact ⟨hp.defers, cv, q1, cv, g2, rfl, q2, hp.le.trans (q3.less hp.n), hp.n, hp.kept.trans q4, q5⟩
        rw [if_neg hlive] at hres
        obtain ⟨v1, hv1, hres⟩ := bind_some' hres
        cases hres
        refine ⟨hp.defers, cv, q1, cv, g2.frozen s.n w1, rfl, q2.frozen hp.n, ((hp.le.trans (q3.less hp.n)).trans (frozen_le q2 _)), Nat.le_refl _, (hp.kept.trans q4).trans (frozen_kept _), ?_⟩
        exact fz_slot q2 hp.n (by simp) q5 hv1
      cases e with
      | normal => exact key h
      | ret => exact key h
      | exit id => cases h

theorem upto_sound (hC : Sound P fm C) : ∀ k, CallSound P fm (upto C k).1 ∧ ∀ nt, LoopSound P fm nt k (upto C k).2
  | 0 => ⟨fun _ _ _ _ _ h => (nomatch h), fun _ _ _ _ _ _ _ _ h => (nomatch h)⟩
  | k + 1 => by
    obtain ⟨h1, h2⟩ := upto_sound hC k
    exact ⟨stepCall_sound hC h1 h2, fun nt => stepLoop_sound hC.mixed h1 (h2 nt)⟩

theorem Call_sound (hC : Sound P fm C) : CallSound P fm (Call C) := by
  intro f args s v s' h
  obtain ⟨k, hk⟩ := of_Call C h
  exact (upto_sound hC k).1 f args s v s' hk

/-- The machine runs and comes back, from a memory of which nothing is asked. -/
theorem Call_calls (hC : Sound P fm C) {f : Nat} {args : List AVal} {s s' : ASt} {v : AVal} (h : Call C f args s = some (v, s')) {g : Gh} {w : World} {vs : Array Value} (hS : Sim fm s g w) (hR : RepL fm g s.n args vs.toList) :
    Calls P (fm f) vs w (CallPost fm g w s s' v) :=
  callsIn_wide.1 ((Call_sound hC f args s v s' h).2 g w vs 0 hS hR)

end
end Go.Proofs.YtdhgdpokdhjanaaGreat.Abs
