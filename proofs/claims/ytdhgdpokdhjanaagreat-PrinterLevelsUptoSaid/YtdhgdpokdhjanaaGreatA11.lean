/- What becomes of the relation to memory, in general. -/
import Derived.Test.YtdhgdpokdhjanaaGreatA10
import Derived.Laws.AppendOwn
set_option linter.unusedSimpArgs false
set_option linter.unusedVariables false
namespace Go.Proofs.YtdhgdpokdhjanaaGreat.Abs
open Go


section
variable {fm : Nat → Nat} {g g' : Gh} {s s' : ASt} {n n' nt : Nat} {A : Frame} {w w' : World}

theorem CellRep.mono {r c : Nat} {x : AVal} {v : Value} (hle : le (r + 1) g g') (hf : ∀ b, g.own b = .cell r c → Fix g g' b) (hv : g'.vec r c = g.vec r c) (h : CellRep fm g r c x v) :
    CellRep fm g' r c x v := by
  cases x
  case sl cs len o =>
    cases o with
    | none => exact ⟨h.1.mono hle (Nat.le_refl _), by rw [hv]; exact h.2⟩
    | exact => exact ⟨h.1.mono hle (Nat.le_refl _), by rw [hv]; exact h.2⟩
    | moved => exact ⟨h.1.mono hle (Nat.le_refl _), by rw [hv]; exact h.2⟩
    | mine z =>
      obtain ⟨b, base, cap, vs, h1, h2, h3, h4, h5, h6, h7, h8⟩ := h
      obtain ⟨e1, e2, e3⟩ := hf b h7
      exact ⟨b, base, cap, vs, h1, h2, h3.mono hle (Nat.le_refl _), by rw [e2]; exact h4, by rw [e2]; exact h5, by rw [e3]; exact h6, by rw [e1]; exact h7, by rw [hv]; exact h8⟩
    | loc a b => exact h.elim
  all_goals exact ⟨h.1.mono hle (Nat.le_refl _), by rw [hv]; exact h.2⟩

theorem SlotRep.mono {t : Tag} {x : AVal} {v : Value} (hle : le n g g') (hn : n ≤ n') (hf : ∀ b, g.own b = t → Fix g g' b) (h : SlotRep fm g n t x v) : SlotRep fm g' n' t x v := by
  cases x
  case sl cs len o =>
    cases o with
    | none => exact Rep.mono hle hn h
    | exact => exact Rep.mono hle hn h
    | moved => exact Rep.mono hle hn h
    | mine z =>
      obtain ⟨b, base, cap, vs, h1, h2, h3, h4, h5, h6, h7⟩ := h
      obtain ⟨e1, e2, e3⟩ := hf b h7
      exact ⟨b, base, cap, vs, h1, h2, h3.mono hle hn, by rw [e2]; exact h4, by rw [e2]; exact h5, by rw [e3]; exact h6, by rw [e1]; exact h7⟩
    | loc r c =>
      obtain ⟨h1, h2, ⟨b, hb⟩, x, k, h3, h4, h5⟩ := h
      obtain ⟨x', k', e1, e2, e3⟩ := hle.vec r h2 c x k h3
      exact ⟨h1.mono hle hn, by omega, ⟨b, hle.obj r h2 b hb⟩, x', k', e1, by omega, fun e => by rw [h5 (by omega), e3 (by omega)]⟩
  all_goals exact Rep.mono hle hn h

theorem FrameRep.keep {tmps : Array Value} (hle : le n g g') (hn : n ≤ n') (hf : ∀ b d, g.own b = .slot d → Fix g g' b) (h : FrameRep fm g n nt A tmps) : FrameRep fm g' n' nt A tmps :=
  ⟨h.1, fun d hd => let ⟨v, h1, h2⟩ := h.2 d hd; ⟨v, h1, h2.mono hle hn (fun b hb => hf b d hb)⟩⟩

theorem ObjRep.mono {r b : Nat} {o : AObj} (hle : le (r + 1) g g') (hf : ∀ b c, g.own b = .cell r c → Fix g g' b) (hv : ∀ c, g'.vec r c = g.vec r c) (hw : w'.heap[b]? = w.heap[b]?)
    (hbuf : ∀ b, g.own b = .buf r → g'.own b = .buf r ∧ g'.st b = g.st b ∧ w'.heap[b]? = w.heap[b]?) (h : ObjRep fm g w r b o) : ObjRep fm g' w' r b o := by
  cases o with
  | cells cs =>
    obtain ⟨c, elem, h1, h2, h3⟩ := h
    exact ⟨c, elem, by rw [hw]; exact h1, h2, fun i a hi => let ⟨v, h4, h5⟩ := h3 i a hi; ⟨v, h4, h5.mono hle (fun b hb => hf b i hb) (hv i)⟩⟩
  | bld l =>
    obtain ⟨p, v, h1, h2, h3⟩ := h
    refine ⟨p, v, by rw [hw]; exact h1, h2, ?_⟩
    rcases h3 with h3 | ⟨b2, cap, cur, fz, q1, q2, q0, q3, q4⟩
    · exact .inl h3
    · obtain ⟨f1, f0, f2⟩ := hbuf b2 q2
      exact .inr ⟨b2, cap, cur, fz, q1, f1, by rw [f0]; exact q0, by rw [f2]; exact q3, q4⟩
  | map ks vs =>
    obtain ⟨es, clock, h1, h2, h3⟩ := h
    exact ⟨es, clock, by rw [hw]; exact h1, h2.mono hle (Nat.le_refl _), h3.mono hle (Nat.le_refl _)⟩
  | dead => trivial

/-- A step that touches the blocks T alone. -/
theorem Sim.step (T : Nat → Prop) (hS : Sim fm s g w) (hsize : s'.os.length = s'.n) (hle : le s.n g g') (hn : s.n ≤ s'.n)
    (hfix : ∀ b, ¬ T b → Fix g g' b ∧ g'.mst b = g.mst b ∧ w'.heap[b]? = w.heap[b]?) (hTn : ∀ b, w.heap.size ≤ b → b < w'.heap.size → T b) (hws : w.heap.size ≤ w'.heap.size)
    (hobjs : ∀ r o, s'.get r = some o → (s.get r = some o ∧ g'.obj r = g.obj r ∧ (∀ b, g.obj r = some b → ¬ T b) ∧ (∀ c, g'.vec r c = g.vec r c) ∧ ∀ b c, g.own b = .cell r c → ¬ T b) ∨
      ∀ b, g'.obj r = some b → ObjRep fm g' w' r b o)
    (hobjn : ∀ r b, g'.obj r = some b → (g.obj r = some b ∧ ¬ T b) ∨ (r < s'.n ∧ g'.own b = .obj r ∧ b < w'.heap.size ∧ g'.st b = [] ∧ g'.mst b = none))
    (hst : ∀ b, T b → g'.st b ≠ [] ∨ (g'.own b).held = true → ∃ c elem fr, w'.heap[b]? = some (.cells c elem fr) ∧ g'.st b <+: c.toList ∧ c.size = g'.sz b ∧ ((g'.own b).held = true → fr = (0, 0)))
    (hmst : ∀ b, T b → ∀ ks vs, g'.mst b = some (ks, vs) → ∃ es clock, w'.heap[b]? = some (.map es clock) ∧ es.toList.map (·.key) = ks ∧ es.toList.map (·.val) = vs)
    (hfresh : ∀ b, T b → w'.heap.size ≤ b → g'.own b = .free ∧ g'.st b = [] ∧ g'.mst b = none) (hTbuf : ∀ b, T b → ∀ q, g.own b ≠ .buf q) : Sim fm s' g' w' where
  size := hsize
  objs := by
    intro r o hr b hb
    rcases hobjs r o hr with ⟨h1, h2, h3, h4, h5⟩ | h
    · have hlt := ASt.get_lt h1
      rw [h2] at hb
      exact (hS.objs r o h1 b hb).mono (hle.less (by omega)) (fun b' c hb' => (hfix b' (h5 b' c hb')).1) h4 (hfix b (h3 b hb)).2.2 (fun b' hb' => let hT := fun hT => hTbuf b' hT r hb'; ⟨by rw [(hfix b' hT).1.1]; exact hb', (hfix b' hT).1.2.1, (hfix b' hT).2.2⟩)
    · exact h b hb
  objn := by
    intro r b hb
    rcases hobjn r b hb with ⟨h1, h2⟩ | h
    · obtain ⟨e1, e2, e3, e4, e5⟩ := hS.objn r b h1
      obtain ⟨⟨f1, f2, f3⟩, f4, f5⟩ := hfix b h2
      exact ⟨by omega, by rw [f1]; exact e2, by omega, by rw [f2]; exact e4, by rw [f4]; exact e5⟩
    · exact h
  st := by
    intro b hb
    by_cases hT : T b
    · exact hst b hT hb
    · obtain ⟨⟨f1, f2, f3⟩, f4, f5⟩ := hfix b hT
      rw [f1, f2, f3, f5]
      rw [f1, f2] at hb
      exact hS.st b hb
  mst := by
    intro b ks vs hb
    by_cases hT : T b
    · exact hmst b hT ks vs hb
    · obtain ⟨_, f4, f5⟩ := hfix b hT
      rw [f5]
      rw [f4] at hb
      exact hS.mst b ks vs hb
  fresh := by
    intro b hb
    by_cases hT : T b
    · exact hfresh b hT hb
    · obtain ⟨⟨f1, f2, f3⟩, f4, f5⟩ := hfix b hT
      obtain ⟨e1, e2, e3⟩ := hS.fresh b (by omega)
      exact ⟨by rw [f1]; exact e1, by rw [f2]; exact e2, by rw [f4]; exact e3⟩

/-- What an instruction leaves: the value v, the frame A', the state s'. -/
structure Post (fm : Nat → Nat) (nt : Nat) (g : Gh) (w : World) (s s' : ASt) (A' : Frame) (tmps : Array Value) (v : AVal) (cv : Value) (g' : Gh) (w' : World) : Prop where
  sim : Sim fm s' g' w'
  le : le s.n g g'
  n : s.n ≤ s'.n
  kept : Kept g g' w w'
  frame : FrameRep fm g' s'.n nt A' tmps
  res : SlotRep fm g' s'.n .res v cv

/-! ### Whose a block is, changed alone -/

def Gh.tag (g : Gh) (b : Nat) (t : Tag) : Gh := { g with own := fun x => if x = b then t else g.own x }

theorem tag_le (b : Nat) (t : Tag) (n : Nat) : le n g (g.tag b t) :=
  ⟨fun _ _ _ h => h, fun _ => List.prefix_refl _, fun _ _ h => h, fun _ _ _ h k e => ⟨h, k, e, Nat.le_refl _, fun _ => rfl⟩⟩

/-- A block that is held may become another's, if no object's cell and no object has it. -/
theorem Sim.tag {b : Nat} {t : Tag} (hS : Sim fm s g w) (h0 : (g.own b).held = true) (hc : ∀ r c, g.own b ≠ .cell r c) (ht : t.held = true) : Sim fm s (g.tag b t) w where
  size := hS.size
  objs := by
    intro r o hr b' hb'
    refine (hS.objs r o hr b' hb').mono (tag_le b t _) (fun x c hx => ?_) (fun _ => rfl) rfl (fun x hx => ⟨by
      have : x ≠ b := fun e => by rw [← e, hx] at h0; simp [Tag.held] at h0
      simp [Gh.tag, this, hx], rfl, rfl⟩)
    have : x ≠ b := fun e => hc r c (by rw [← e]; exact hx)
    exact ⟨by simp [Gh.tag, this], rfl, rfl⟩
  objn := by
    intro r b' hb'
    obtain ⟨e1, e2, e3, e4, e5⟩ := hS.objn r b' hb'
    have : b' ≠ b := fun e => by rw [← e, e2] at h0; simp [Tag.held] at h0
    exact ⟨e1, by simp [Gh.tag, this, e2], e3, e4, e5⟩
  st := by
    intro x hx
    by_cases e : x = b
    · subst e
      obtain ⟨c, elem, fr, h1, h2, h3, h4⟩ := hS.st x (.inr h0)
      exact ⟨c, elem, fr, h1, h2, h3, fun _ => h4 h0⟩
    · have e2 : (g.tag b t).own x = g.own x := by simp [Gh.tag, e]
      rw [e2] at hx ⊢
      exact hS.st x hx
  mst := hS.mst
  fresh := by
    intro x hx
    obtain ⟨e1, e2, e3⟩ := hS.fresh x hx
    have : x ≠ b := fun e => by rw [← e, e1] at h0; simp [Tag.held] at h0
    exact ⟨by simp [Gh.tag, this, e1], e2, e3⟩

theorem get_put (A : Frame) (d k : Nat) (v : AVal) : Frame.get (A.put d v) k = if d = k then v else A.get k := rfl

/-- The value of an instruction comes into its slot. -/
theorem put_sound {dst : Option Nat} {v : AVal} {cv : Value} {a : Act} (hS : Sim fm s g w) (hF : FrameRep fm g s.n nt A a.tmps) (hv : SlotRep fm g s.n .res v cv) (hd : ∀ d, dst = some d → d < nt) :
    ∃ g', Sim fm s g' w ∧ le s.n g g' ∧ Kept g g' w w ∧ FrameRep fm g' s.n nt (A.putO dst v) (a.put dst cv).tmps := by
  cases dst with
  | none => exact ⟨g, hS, le.refl _ _, Kept.refl _ _, hF⟩
  | some d =>
    have hd := hd d rfl
    have hsz : d < a.tmps.size := by rw [hF.1]; exact hd
    -- the frame, once the block is tagged (or not)
    have frame : ∀ g', le s.n g g' → (∀ b k, g.own b = .slot k → Fix g g' b) → SlotRep fm g' s.n (.slot d) v cv → FrameRep fm g' s.n nt (A.putO (some d) v) (a.put (some d) cv).tmps := by
      intro g' hle hf hv'
      refine ⟨by simp [Act.put, hF.1], fun k hk => ?_⟩
      simp only [Frame.putO, get_put] at hk ⊢
      by_cases e : d = k
      · subst e
        simp only [if_true] at hk ⊢
        exact ⟨cv, by simp [Act.put, hsz], hv'⟩
      · rw [if_neg e] at hk ⊢
        obtain ⟨u, h1, h2⟩ := hF.2 k hk
        exact ⟨u, by simp [Act.put, e, h1], h2.mono hle (Nat.le_refl _) (fun b hb => hf b k hb)⟩
    by_cases hm : ∃ cs len z, v = .sl cs len (.mine z)
    · obtain ⟨cs, len, z, rfl⟩ := hm
      obtain ⟨b, base, cap, vs, h1, h2, h3, h4, h5, h6, h7⟩ := hv
      have hne : ∀ x k, g.own x = .slot k → x ≠ b := fun x k hx e => by rw [e, h7] at hx; cases hx
      have hne' : ∀ x q, g.own x = .other q → x ≠ b := fun x q hx e => by rw [e, h7] at hx; cases hx
      refine ⟨g.tag b (.slot d), hS.tag (by rw [h7]; rfl) (by rw [h7]; intro _ _ h; cases h) rfl, tag_le _ _ _,
        ⟨fun x q hx => ⟨⟨by simp [Gh.tag, hne' x q hx], rfl, rfl⟩, rfl⟩, rfl, rfl, fun _ _ _ => rfl⟩, frame _ (tag_le _ _ _) (fun x k hx => ⟨by simp [Gh.tag, hne x k hx], rfl, rfl⟩) ?_⟩
      exact ⟨b, base, cap, vs, h1, h2, h3.mono (tag_le _ _ _) (Nat.le_refl _), h4, h5, h6, by simp [Gh.tag]⟩
    · refine ⟨g, hS, le.refl _ _, Kept.refl _ _, frame g (le.refl _ _) (fun _ _ _ => ⟨rfl, rfl, rfl⟩) ?_⟩
      cases v
      case sl cs len o =>
        cases o with
        | mine z => exact absurd ⟨cs, len, z, rfl⟩ hm
        | none => exact hv
        | exact => exact hv
        | moved => exact hv
        | loc r c => exact hv
      all_goals exact hv

/-- A value is taken out of its slot, with all that it owns. -/
theorem taken_sound {x : Opd} {y : Operand} {v : AVal} {A' : Frame} {a : Act} (hS : Sim fm s g w) (hF : FrameRep fm g s.n nt A a.tmps) (hok : okOpd fm x y = true) (h : x.taken A = (v, A')) :
    ∃ g', Sim fm s g' w ∧ le s.n g g' ∧ Kept g g' w w ∧ FrameRep fm g' s.n nt A' a.tmps ∧ SlotRep fm g' s.n .res v (a.eval y) ∧ g'.vec = g.vec ∧ g'.obj = g.obj ∧ ∀ b, (∀ d, g.own b ≠ .slot d) → Fix g g' b := by
  have same : ∀ u B, x.taken A = (u, B) → B = A → u = x.ev A → ∃ g', Sim fm s g' w ∧ le s.n g g' ∧ Kept g g' w w ∧ FrameRep fm g' s.n nt B a.tmps ∧ SlotRep fm g' s.n .res u (a.eval y) ∧ g'.vec = g.vec ∧ g'.obj = g.obj ∧ ∀ b, (∀ d, g.own b ≠ .slot d) → Fix g g' b :=
    fun u B _ hB hu => by
      subst hB; subst hu
      exact ⟨g, hS, le.refl _ _, Kept.refl _ _, hF, (okOpd_rep hF hok).slot, rfl, rfl, fun _ _ => ⟨rfl, rfl, rfl⟩⟩
  cases x with
  | val c => simp only [Opd.taken] at h; cases h; exact same _ _ rfl rfl rfl
  | fn i => simp only [Opd.taken] at h; cases h; exact same _ _ rfl rfl rfl
  | tmp d =>
    cases y <;> simp [okOpd] at hok
    subst hok
    simp only [Opd.taken] at h
    split at h
    · rename_i cs len z hget
      cases h
      obtain ⟨cv, h1, h2⟩ := hF.2 d (by rw [hget]; simp)
      rw [hget] at h2
      have hrep : Rep fm g s.n (.sl cs len .none) cv := h2.strip
      obtain ⟨b, base, cap, vs, e1, e2, e3, e4, e5, e6, e7⟩ := h2
      have hev : a.eval (.tmp d) = cv := by
        have hlt : d < a.tmps.size := (Array.getElem?_eq_some_iff.1 h1).1
        simp [Act.eval, Array.getD, hlt, (Array.getElem?_eq_some_iff.1 h1).2]
      have hne : ∀ x, (∀ k, g.own x ≠ .slot k) → x ≠ b := fun x hx e => hx d (by rw [e, e7])
      refine ⟨g.tag b .res, hS.tag (by rw [e7]; rfl) (by rw [e7]; intro _ _ h; cases h) rfl, tag_le _ _ _, ⟨fun x q hx => ⟨⟨?_, rfl, rfl⟩, rfl⟩, rfl, rfl, fun _ _ _ => rfl⟩, ⟨hF.1, fun k hk => ?_⟩, ?_, rfl, rfl, fun x hx => ⟨by simp [Gh.tag, hne x hx], rfl, rfl⟩⟩
      · have := hne x (fun k hk => by rw [hx] at hk; cases hk)
        simp [Gh.tag, this]
      · rw [get_put] at hk ⊢
        by_cases e : d = k
        · subst e
          rw [if_pos rfl]
          exact ⟨cv, h1, hrep.mono (tag_le _ _ _) (Nat.le_refl _)⟩
        · rw [if_neg e] at hk ⊢
          obtain ⟨u, f1, f2⟩ := hF.2 k hk
          refine ⟨u, f1, f2.mono (tag_le _ _ _) (Nat.le_refl _) (fun x hx => ⟨?_, rfl, rfl⟩)⟩
          have : x ≠ b := fun e' => by rw [e', e7] at hx; cases hx; exact e rfl
          simp [Gh.tag, this]
      · rw [hev]
        exact ⟨b, base, cap, vs, e1, e2, e3.mono (tag_le _ _ _) (Nat.le_refl _), e4, e5, e6, by simp [Gh.tag]⟩
    · rename_i hne
      cases h
      exact same _ _ (by simp only [Opd.taken]) rfl rfl

end
end Go.Proofs.YtdhgdpokdhjanaaGreat.Abs
