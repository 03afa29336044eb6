/- Objects end; what outlives them is steady from then on. -/
import Derived.Test.YtdhgdpokdhjanaaGreatA17
set_option linter.unusedSimpArgs false
set_option linter.unusedVariables false
namespace Go.Proofs.YtdhgdpokdhjanaaGreat.Abs
open Go

section
variable {fm : Nat → Nat} {g g' : Gh} {s s' : ASt} {n n' m nt : Nat} {A A1 A' : Frame} {a : Act} {w w' : World}

/-- Is the block that of an object that ends? -/
def Gh.ends (g : Gh) (m b : Nat) : Bool := match g.own b with
  | .obj r => decide (m ≤ r)
  | _ => false

def cellsAt (w : World) (b : Nat) : List Value := match w.heap[b]? with
  | some (.cells c _ _) => c.toList
  | _ => []
def mapAt (w : World) (b : Nat) : Option (List Value × List Value) := match w.heap[b]? with
  | some (.map es _) => some (es.toList.map (·.key), es.toList.map (·.val))
  | _ => none

def Gh.frozen (g : Gh) (m : Nat) (w : World) : Gh where
  obj := fun r => if r < m then g.obj r else none
  own := fun b => if g.ends m b then .free else g.own b
  st := fun b => if g.ends m b then cellsAt w b else g.st b
  mst := fun b => if g.ends m b then mapAt w b else g.mst b
  vec := g.vec
  sz := fun b => if g.ends m b then (cellsAt w b).length else g.sz b

theorem getL_drop : ∀ (k : Nat) (os : List AObj) (n r : Nat), r + k < n → getL (os.drop k) (n - k) r = getL os n r
  | 0, _, _, _, _ => by simp
  | k + 1, [], n, r, _ => by simp [getL]
  | k + 1, o :: os, n + 1, r, h => by
    simp only [List.drop_succ_cons]
    rw [show n + 1 - (k + 1) = n - k from by omega, getL_drop k os n r (by omega)]
    simp only [getL]
    rw [if_neg (by omega)]
  | k + 1, o :: os, 0, r, h => by omega

theorem get_trunc {r : Nat} (h : r < m) (hm : m ≤ s.n) : (s.trunc m).get r = s.get r := by
  unfold ASt.trunc ASt.get
  have := getL_drop (s.n - m) s.os s.n r (by omega)
  rw [show s.n - (s.n - m) = m from by omega] at this
  exact this

theorem frozen_le (hS : Sim fm s g w) (m : Nat) : le m g (g.frozen m w) := by
  refine ⟨fun r hr b h => by simp [Gh.frozen, hr, h], fun b => ?_, fun b x h => ?_, fun _ _ _ h k e => ⟨h, k, e, Nat.le_refl _, fun _ => rfl⟩⟩
  · show g.st b <+: if g.ends m b then cellsAt w b else g.st b
    split
    · by_cases h : g.st b = []
      · rw [h]; exact List.nil_prefix
      · obtain ⟨c, elem, fr, h1, h2, _⟩ := hS.st b (.inl h)
        simp only [cellsAt, h1]
        exact h2
    · exact List.prefix_refl _
  · show (if g.ends m b then mapAt w b else g.mst b) = some x
    split
    · obtain ⟨ks, vs⟩ := x
      obtain ⟨es, clock, h1, h2, h3⟩ := hS.mst b ks vs h
      simp [mapAt, h1, h2, h3]
    · exact h

theorem ends_own {b : Nat} (h : ∀ r, m ≤ r → g.own b ≠ .obj r) : g.ends m b = false := by
  unfold Gh.ends
  split
  · rename_i r hr
    simp only [decide_eq_false_iff_not]
    exact fun hm => h r hm hr
  · rfl

theorem frozen_fix {b : Nat} (h : ∀ r, m ≤ r → g.own b ≠ .obj r) : Fix g (g.frozen m w) b := by
  have := ends_own h
  exact ⟨by simp [Gh.frozen, this], by simp [Gh.frozen, this], by simp [Gh.frozen, this]⟩

theorem Sim.frozen (hS : Sim fm s g w) (hm : m ≤ s.n) : Sim fm (s.trunc m) (g.frozen m w) w where
  size := by
    simp only [ASt.trunc, List.length_drop, hS.size]
    omega
  objs := by
    intro r o hr b hb
    have hlt : r < m := ASt.get_lt hr
    rw [get_trunc hlt hm] at hr
    simp only [Gh.frozen, hlt, if_true] at hb
    exact (hS.objs r o hr b hb).mono ((frozen_le hS m).less (by omega)) (fun x c hx => frozen_fix (fun q _ e => by rw [hx] at e; cases e)) (fun _ => rfl) rfl (fun x hx => ⟨by
      have : g.ends m x = false := by simp [Gh.ends, hx]
      simp [Gh.frozen, this, hx], by
      have : g.ends m x = false := by simp [Gh.ends, hx]
      simp [Gh.frozen, this], rfl⟩)
  objn := by
    intro r b hb
    simp only [Gh.frozen] at hb
    split at hb
    · rename_i hlt
      obtain ⟨e1, e2, e3, e4, e5⟩ := hS.objn r b hb
      have hx : g.ends m b = false := ends_own (fun q hq e => by rw [e2] at e; cases e; omega)
      exact ⟨hlt, by simp [Gh.frozen, hx, e2], e3, by simp [Gh.frozen, hx, e4], by simp [Gh.frozen, hx, e5]⟩
    · cases hb
  st := by
    intro b hb
    by_cases hx : g.ends m b = true
    · simp only [Gh.frozen, hx, if_true] at hb ⊢
      rcases hb with hb | hb
      · unfold cellsAt at hb ⊢
        split at hb
        · rename_i c elem fr hw
          exact ⟨c, elem, fr, hw, List.prefix_refl _, by simp, fun h => by simp [Tag.held] at h⟩
        · exact absurd rfl hb
      · simp [Tag.held] at hb
    · simp only [Gh.frozen, hx] at hb ⊢
      exact hS.st b hb
  mst := by
    intro b ks vs hb
    by_cases hx : g.ends m b = true
    · simp only [Gh.frozen, hx, if_true] at hb
      unfold mapAt at hb
      split at hb
      · rename_i es clock hw
        cases hb
        exact ⟨es, clock, hw, rfl, rfl⟩
      · cases hb
    · simp only [Gh.frozen, hx] at hb
      exact hS.mst b ks vs hb
  fresh := by
    intro b hb
    obtain ⟨e1, e2, e3⟩ := hS.fresh b hb
    have hx : g.ends m b = false := ends_own (fun q hq e => by rw [e1] at e; cases e)
    exact ⟨by simp [Gh.frozen, hx, e1], by simp [Gh.frozen, hx, e2], by simp [Gh.frozen, hx, e3]⟩

theorem frozen_kept (m : Nat) : Kept g (g.frozen m w) w w := ⟨fun b x hb => ⟨frozen_fix (fun r _ e => by rw [hb] at e; cases e), rfl⟩, rfl, rfl, fun b x hb => by
  have : g.ends m b = false := by simp [Gh.ends, hb]
  simp [Gh.frozen, this]⟩

theorem mapM_some {α β : Type} {f : α → Option β} : ∀ {l : List α} {r : List β}, l.mapM f = some r → l.length = r.length ∧ ∀ (i : Nat) (x : α), l[i]? = some x → ∃ y, r[i]? = some y ∧ f x = some y
  | [], r, h => by
    simp at h
    subst h
    exact ⟨rfl, fun i x hx => by simp at hx⟩
  | a :: l, r, h => by
    simp only [List.mapM_cons] at h
    obtain ⟨b, hb, h⟩ := bind_some' h
    obtain ⟨t, ht, h⟩ := bind_some' h
    cases h
    obtain ⟨h1, h2⟩ := mapM_some ht
    refine ⟨by simp [h1], fun i x hx => ?_⟩
    cases i with
    | zero => simp at hx; subst hx; exact ⟨b, rfl, hb⟩
    | succ i => simpa using h2 i x (by simpa using hx)

theorem RepL.of_get {k : Nat} : ∀ {cs : List AVal} {vs : List Value}, cs.length = vs.length → (∀ (i : Nat) (a : AVal) (v : Value), cs[i]? = some a → vs[i]? = some v → Rep fm g k a v) → RepL fm g k cs vs
  | [], [], _, _ => .nil
  | a :: cs, v :: vs, h, hr => .cons _ _ _ _ (hr 0 a v rfl rfl) (RepL.of_get (by simpa using h) (fun i b u h1 h2 => hr (i + 1) b u (by simpa using h1) (by simpa using h2)))
  | [], _ :: _, h, _ => by simp at h
  | _ :: _, [], h, _ => by simp at h

theorem fz_sound (hS : Sim fm s g w) (hm : m ≤ s.n) : ∀ (k : Nat) (x y : AVal) (v : Value), Rep fm g s.n x v → fz m s k x = some y → Rep fm (g.frozen m w) m y v
  | 0, _, _, _, _, h => by simp [fz] at h
  | k + 1, x, y, v, hr, h => by
    have ih := fz_sound hS hm k
    have list : ∀ (cs l : List AVal) (vs : List Value), RepL fm g s.n cs vs → cs.mapM (fz m s k) = some l → RepL fm (g.frozen m w) m l vs := by
      intro cs l vs hR hl
      obtain ⟨h1, h2⟩ := mapM_some hl
      refine RepL.of_get (by rw [← h1]; exact hR.length) (fun i a u ha hu => ?_)
      have hlt : i < cs.length := by rw [h1]; exact (List.getElem?_eq_some_iff.1 ha).1
      obtain ⟨z, hz, hzz⟩ := h2 i cs[i] (by simp [hlt])
      rw [ha] at hz
      cases hz
      obtain ⟨u', hu', hR'⟩ := hR.get i cs[i] (by simp [hlt])
      rw [hu] at hu'
      cases hu'
      exact ih _ _ _ hR' hzz
    have stle := fun b => (frozen_le hS m).st b
    unfold fz at h
    split at h
    · rename_i hu
      cases h
      exact (hr.lower hu).mono (frozen_le hS m) (Nat.le_refl _)
    · rename_i hu
      cases x <;> simp only at h
      case ref r off =>
        split at h
        · rename_i cs hg
          obtain ⟨l, hl, rfl⟩ := map_some' h
          cases hr with
          | ref _ _ b hlt hb =>
          have hge : m ≤ r := by simpa [AVal.under] using hu
          obtain ⟨c, elem, hw, hsz, hcells⟩ := hS.objs r _ hg b hb
          obtain ⟨o1, o2, o3, o4, o5⟩ := hS.objn r b hb
          have hx : g.ends m b = true := by simp [Gh.ends, o2, hge]
          obtain ⟨h1, h2⟩ := mapM_some hl
          have hst : (g.frozen m w).st b = c.toList := by simp [Gh.frozen, hx, cellsAt, hw]
          have := Rep.ipt (fm := fm) (g := g.frozen m w) (n := m) l off b 0 c.toList (RepL.of_get (by rw [← h1]; simp [hsz]) (fun i a u ha hu => by
            have hlt : i < cs.length := by rw [h1]; exact (List.getElem?_eq_some_iff.1 ha).1
            obtain ⟨z, hz, hzz⟩ := h2 i cs[i] (by simp [hlt])
            rw [ha] at hz
            cases hz
            obtain ⟨u', hu', hR'⟩ := hcells i cs[i] (by simp [hlt])
            have : c[i]? = some u := by simpa using hu
            rw [this] at hu'
            cases hu'
            exact ih _ _ _ (hR'.strip (by omega)) hzz)) (by rw [hst]; simp)
          simpa using this
        · cases h
      case ipt cs off =>
        obtain ⟨l, hl, rfl⟩ := map_some' h
        cases hr with
        | ipt _ _ b base vs hR hp => exact .ipt _ _ _ _ _ (list _ _ _ hR hl) (prefix_drop (stle b) hp)
      case sl cs len o =>
        obtain ⟨l, hl, rfl⟩ := map_some' h
        cases hr with
        | sl0 ad cap =>
          simp at hl
          subst hl
          exact .sl0 _ _
        | sl _ _ _ b base cap vs ho hc hR hp =>
        rcases ho with rfl | ⟨rfl, rfl⟩
        · exact .sl _ _ _ _ _ _ _ (.inl rfl) hc (list _ _ _ hR hl) (prefix_drop (stle b) hp)
        · exact .sl _ _ _ _ _ _ _ (.inr ⟨rfl, rfl⟩) hc (list _ _ _ hR hl) (prefix_drop (stle b) hp)
      case map r =>
        split at h
        · rename_i ks vs hg
          obtain ⟨ks', hk', h⟩ := bind_some' h
          obtain ⟨vs', hv', h⟩ := bind_some' h
          cases h
          cases hr with
          | map _ b hlt hb =>
          have hge : m ≤ r := by simpa [AVal.under] using hu
          obtain ⟨es, clock, h1, h2, h3⟩ := hS.objs r _ hg b hb
          obtain ⟨o1, o2, o3, o4, o5⟩ := hS.objn r b hb
          have hx : g.ends m b = true := by simp [Gh.ends, o2, hge]
          exact .imap _ _ b _ _ (by simp only [Gh.frozen, hx, if_true, mapAt, h1]) (list _ _ _ (h2.mono (le.refl _ _) (by omega)) hk') (list _ _ _ (h3.mono (le.refl _ _) (by omega)) hv')
        · cases h
      case imap ks vs =>
        obtain ⟨ks', hk', h⟩ := bind_some' h
        obtain ⟨vs', hv', h⟩ := bind_some' h
        cases h
        cases hr with
        | imap _ _ b cks cvs hb hk hv => exact .imap _ _ b _ _ ((frozen_le hS m).mst b _ hb) (list _ _ _ hk hk') (list _ _ _ hv hv')
        | imapU _ _ ks0 vs0 b cks cvs hb hk hv hf hq => exact absurd (by simp [AVal.under, (hq m).1, (hq m).2.1]) hu
      case fn f xs ys =>
        obtain ⟨ks', hk', h⟩ := bind_some' h
        obtain ⟨vs', hv', h⟩ := bind_some' h
        cases h
        cases hr with
        | fn _ _ _ us vs h1 h2 hf => exact .fn _ _ _ _ _ (list _ _ _ h1 hk') (list _ _ _ h2 hv') hf
        | yld _ l hf => exact absurd rfl hu
      case agg cs =>
        obtain ⟨l, hl, rfl⟩ := map_some' h
        cases hr with
        | agg _ vs hR => exact .agg _ _ (list _ _ _ hR hl)
      case tup cs =>
        obtain ⟨l, hl, rfl⟩ := map_some' h
        cases hr with
        | tup _ vs hR => exact .tup _ _ (list _ _ _ hR hl)
      all_goals (simp [AVal.under] at hu)

/-- The same of what a slot holds. -/
theorem fz_slot (hS : Sim fm s g w) (hm : m ≤ s.n) {k : Nat} {x y : AVal} {v : Value} {t : Tag} (ht : ∀ r, t ≠ .obj r) (hr : SlotRep fm g s.n t x v) (h : fz m s k x = some y) : SlotRep fm (g.frozen m w) m t y v := by
  have fixt : ∀ b, g.own b = t → Fix g (g.frozen m w) b := fun b hb => frozen_fix (fun r _ e => ht r (by rw [← hb, e]))
  have plain : ∀ z, x = z → Rep fm g s.n x v → (∀ a b c, x ≠ .sl a b c ∨ (c = .none ∨ c = .exact)) → SlotRep fm (g.frozen m w) m t y v := fun z _ hr' _ => (fz_sound hS hm k x y v hr' h).slot
  cases x
  case sl cs len o =>
    cases o with
    | none => exact (fz_sound hS hm k _ y v hr h).slot
    | exact => exact (fz_sound hS hm k _ y v hr h).slot
    | moved =>
      cases k with
      | zero => simp [fz] at h
      | succ k =>
        have hr' : Rep fm g s.n (.sl cs len .none) v := hr
        unfold fz at h
        split at h
        · rename_i hu
          cases h
          exact (hr'.lower (by simpa [AVal.under, Own.under] using hu)).mono (frozen_le hS m) (Nat.le_refl _)
        · rename_i hu
          obtain ⟨l, hl, rfl⟩ := map_some' h
          have : fz m s (k + 1) (.sl cs len .none) = some (.sl l len .none) := by
            unfold fz
            rw [if_neg (by simpa [AVal.under, Own.under] using hu)]
            simp only [hl, Option.map_some]
          exact fz_sound hS hm _ _ _ _ hr' this
    | mine z =>
      obtain ⟨b, base, cap, vs, e1, e2, e3, e4, e5, e6, e7⟩ := hr
      obtain ⟨f1, f2, f3⟩ := fixt b e7
      -- the cells
      have main : ∀ l : List AVal, l.length = cs.length → RepL fm (g.frozen m w) m l vs → y = .sl l len (.mine z) → SlotRep fm (g.frozen m w) m t y v := by
        intro l hl hR hy
        subst hy
        exact ⟨b, base, cap, vs, e1, e2, hR, by rw [f2]; exact e4, by rw [f2, hl]; exact e5, by rw [f3]; exact e6, by rw [f1]; exact e7⟩
      cases k with
      | zero => simp [fz] at h
      | succ k =>
        unfold fz at h
        split at h
        · rename_i hu
          cases h
          exact main cs rfl ((e3.lower (by simpa [AVal.under, Own.under] using hu)).mono (frozen_le hS m) (Nat.le_refl _)) rfl
        · rename_i hu
          obtain ⟨l, hl, rfl⟩ := map_some' h
          have hq : fz m s (k + 1) (.agg cs) = some (.agg l) := by
            unfold fz
            rw [if_neg (by simpa [AVal.under, Own.under] using hu)]
            simp only [hl, Option.map_some]
          have := fz_sound hS hm _ _ _ _ (Rep.agg cs vs e3) hq
          generalize hvv : Value.agg vs.toArray = av at this
          cases this with
          | agg _ us hR =>
          have : us = vs := by
            have := congrArg Value.cells hvv
            simp [Value.cells] at this
            exact this.symm
          subst this
          exact main l (mapM_some hl).1.symm hR rfl
    | loc r c =>
      obtain ⟨h1, h2, ⟨b, hb⟩, x0, k0, h3, h4, h5⟩ := hr
      cases k with
      | zero => simp [fz] at h
      | succ k =>
        unfold fz at h
        split at h
        · rename_i hu
          cases h
          simp only [AVal.under, Own.under, Bool.and_eq_true, decide_eq_true_eq] at hu
          exact ⟨(h1.lower (by simp [AVal.under, Own.under, hu.1])).mono (frozen_le hS m) (Nat.le_refl _), hu.2, ⟨b, by simp [Gh.frozen, hu.2, hb]⟩, x0, k0, h3, h4, h5⟩
        · rename_i hu
          obtain ⟨l, hl, rfl⟩ := map_some' h
          by_cases hu2 : (AVal.sl cs len .none).under m = true
          · -- only the mark is too new
            have hcs : underL m cs = true := by simpa [AVal.under, Own.under] using hu2
            cases h1 with
            | sl0 ad cap =>
              simp at hl
              subst hl
              exact Rep.sl0 _ _
            | sl _ _ _ b2 base cap vs ho hc hR hp =>
            have hq : fz m s (k + 1) (.agg cs) = some (.agg cs) := by
              unfold fz
              rw [if_pos (by simpa [AVal.under] using hcs)]
            -- the cells are frozen one by one all the same
            have hR2 : RepL fm (g.frozen m w) m l vs := by
              obtain ⟨q1, q2⟩ := mapM_some hl
              refine RepL.of_get (by rw [← q1]; exact hR.length) (fun i a u ha hu => ?_)
              have hlt : i < cs.length := by rw [q1]; exact (List.getElem?_eq_some_iff.1 ha).1
              obtain ⟨z, hz, hzz⟩ := q2 i cs[i] (by simp [hlt])
              rw [ha] at hz
              cases hz
              obtain ⟨u', hu', hR'⟩ := hR.get i cs[i] (by simp [hlt])
              rw [hu] at hu'
              cases hu'
              exact fz_sound hS hm k _ _ _ hR' hzz
            exact Rep.sl _ _ _ _ _ _ _ (.inl rfl) hc hR2 (prefix_drop ((frozen_le hS m).st b2) hp)
          · have : fz m s (k + 1) (.sl cs len .none) = some (.sl l len .none) := by
              unfold fz
              rw [if_neg hu2]
              simp only [hl, Option.map_some]
            exact fz_sound hS hm _ _ _ _ h1 this
  all_goals exact (fz_sound hS hm k _ y v hr h).slot

end
end Go.Proofs.YtdhgdpokdhjanaaGreat.Abs
