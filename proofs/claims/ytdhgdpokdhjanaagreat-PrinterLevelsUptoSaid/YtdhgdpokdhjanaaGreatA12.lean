/- New objects, new steady rows, stores. -/
import Derived.Test.YtdhgdpokdhjanaaGreatA11
set_option linter.unusedSimpArgs false
set_option linter.unusedVariables false
namespace Go.Proofs.YtdhgdpokdhjanaaGreat.Abs
open Go

section
variable {P : Program} {fm : Nat → Nat} {g g' : Gh} {s s' : ASt} {n n' nt : Nat} {A : Frame} {a : Act} {w w' : World}

def Gh.newObj (g : Gh) (r b : Nat) : Gh :=
  { g with obj := fun x => if x = r then some b else g.obj x, own := fun x => if x = b then .obj r else g.own x, vec := fun x c => if x = r then none else g.vec x c }

theorem newObj_le (n b : Nat) : le n g (g.newObj n b) :=
  ⟨fun r hr _ h => by simp [Gh.newObj, show r ≠ n from by omega, h], fun _ => List.prefix_refl _, fun _ _ h => h,
   fun r hr c h k e => ⟨h, k, by simp [Gh.newObj, show r ≠ n from by omega, e], Nat.le_refl _, fun _ => rfl⟩⟩

theorem get_push_new (s : ASt) (o : AObj) : (s.push o).get s.n = some o := by simp [ASt.push, ASt.get, getL]
theorem get_push_old (s : ASt) (o : AObj) {r : Nat} (h : r ≠ s.n) : (s.push o).get r = s.get r := by simp [ASt.push, ASt.get, getL, h]

theorem alloc_get (w : World) (o : Obj) (b : Nat) : (w.alloc o).heap[b]? = if b = w.heap.size then some o else w.heap[b]? := by
  simp only [World.alloc]
  rw [Array.getElem?_push]

theorem newObj_sound {o : AObj} {ob : Obj} (hS : Sim fm s g w) (hF : FrameRep fm g s.n nt A a.tmps)
    (hO : ObjRep fm (g.newObj s.n w.heap.size) (w.alloc ob) s.n w.heap.size o) :
    Post fm nt g w s (s.push o) A a.tmps (.ref s.n 0) (.pointer (some ⟨w.heap.size, 0, none⟩)) (g.newObj s.n w.heap.size) (w.alloc ob) := by
  obtain ⟨f1, f2, f3⟩ := hS.fresh w.heap.size (Nat.le_refl _)
  have hne : ∀ b, b ≠ w.heap.size → Fix g (g.newObj s.n w.heap.size) b := fun b hb => ⟨by simp [Gh.newObj, hb], rfl, rfl⟩
  have hown : ∀ b t, g.own b = t → t ≠ .free → b ≠ w.heap.size := fun b t hb ht e => ht (by rw [← hb, e, f1])
  refine ⟨?_, newObj_le _ _, by simp [ASt.push], ?_, hF.keep (newObj_le _ _) (by simp [ASt.push]) (fun b d hb => hne b (hown b _ hb (by simp))), ?_⟩
  · refine hS.step (· = w.heap.size) (by simp [ASt.push, hS.size]) (newObj_le _ _) (by simp [ASt.push])
      (fun b hb => ⟨hne b hb, rfl, by rw [alloc_get, if_neg hb]⟩) (fun b h1 h2 => by rw [World.size_alloc] at h2; omega) (by rw [World.size_alloc]; omega) ?_ ?_ ?_ ?_ ?_ (fun b hb q e => by subst hb; rw [f1] at e; cases e)
    · intro r o' hr
      by_cases e : r = s.n
      · subst e
        rw [get_push_new] at hr
        cases hr
        right
        intro b hb
        simp [Gh.newObj] at hb
        subst hb
        exact hO
      · rw [get_push_old _ _ e] at hr
        left
        refine ⟨hr, by simp [Gh.newObj, e], fun b hb e2 => ?_, fun c => by simp [Gh.newObj, e], fun b c hb => hown b _ hb (by simp)⟩
        obtain ⟨_, _, h3, _⟩ := hS.objn r b hb
        omega
    · intro r b hb
      by_cases e : r = s.n
      · subst e
        simp [Gh.newObj] at hb
        subst hb
        right
        exact ⟨by simp [ASt.push], by simp [Gh.newObj], by rw [World.size_alloc]; omega, f2, f3⟩
      · left
        simp only [Gh.newObj, if_neg e] at hb
        obtain ⟨_, _, h3, _⟩ := hS.objn r b hb
        exact ⟨hb, by omega⟩
    · intro b hb h
      subst hb
      rcases h with h | h
      · exact absurd f2 h
      · simp [Gh.newObj, Tag.held] at h
    · intro b hb ks vs h
      subst hb
      have : g.mst w.heap.size = some (ks, vs) := h
      rw [f3] at this
      cases this
    · intro b hb h
      subst hb
      rw [World.size_alloc] at h
      omega
  · refine ⟨?_, rfl, rfl, fun _ _ _ => rfl⟩
    intro b q hb
    have := hown b _ hb (by simp)
    exact ⟨hne b this, by rw [alloc_get, if_neg this]⟩
  · exact .ref _ _ _ (by simp [ASt.push]) (by simp [Gh.newObj])

/-- A value without spare places, in a cell. -/
theorem Rep.cell {r c : Nat} {x : AVal} {v : Value} (h : Rep fm g (r + 1) x v) (hv : g.vec r c = none) : CellRep fm g r c x v := by
  cases h
  case sl cs len o b base cap vs ho hc h hp =>
    rcases ho with rfl | ⟨rfl, rfl⟩
    · exact ⟨.sl _ _ _ _ _ _ _ (.inl rfl) hc h hp, hv⟩
    · exact ⟨.sl _ _ _ _ _ _ _ (.inr ⟨rfl, rfl⟩) hc h hp, hv⟩
  all_goals exact ⟨by first | (constructor <;> assumption) | (apply Rep.imapU <;> assumption), hv⟩

theorem cellsRep {r : Nat} {cs : List AVal} {vs : Array Value} (h : RepL fm g (r + 1) cs vs.toList) (hv : ∀ c, g.vec r c = none) :
    vs.size = cs.length ∧ ∀ i a, cs[i]? = some a → ∃ v, vs[i]? = some v ∧ CellRep fm g r i a v :=
  ⟨by rw [h.length]; simp, fun i a hi => let ⟨v, h1, h2⟩ := h.get i a hi; ⟨v, by simpa using h1, h2.cell (hv i)⟩⟩

theorem newCells_sound {cs : List AVal} {vs : Array Value} {elem : Nat} (hS : Sim fm s g w) (hF : FrameRep fm g s.n nt A a.tmps) (h : RepL fm g s.n cs vs.toList) :
    Post fm nt g w s (s.push (.cells cs)) A a.tmps (.ref s.n 0) (.pointer (some ⟨w.heap.size, 0, none⟩)) (g.newObj s.n w.heap.size) (w.alloc (.cells vs elem)) := by
  refine newObj_sound hS hF ?_
  obtain ⟨h1, h2⟩ := cellsRep (r := s.n) (h.mono (newObj_le s.n w.heap.size) (Nat.le_succ _)) (fun c => by simp [Gh.newObj])
  exact ⟨vs, elem, by rw [alloc_get, if_pos rfl], h1, h2⟩

def Gh.newSt (g : Gh) (b : Nat) (vs : List Value) : Gh := { g with st := fun x => if x = b then vs else g.st x, sz := fun x => if x = b then vs.length else g.sz x }

theorem newSt_le {b : Nat} {vs : List Value} (n : Nat) (h : g.st b = []) : le n g (g.newSt b vs) :=
  ⟨fun _ _ _ h => h, fun x => by
      by_cases e : x = b
      · subst e; rw [h]; exact List.nil_prefix
      · simp [Gh.newSt, e], fun _ _ h => h, fun _ _ _ h k e => ⟨h, k, e, Nat.le_refl _, fun _ => rfl⟩⟩

/-- A new row that stays as it is. -/
theorem newSt_sound {vs : Array Value} {elem : Nat} (hS : Sim fm s g w) (hF : FrameRep fm g s.n nt A a.tmps) :
    Sim fm s (g.newSt w.heap.size vs.toList) (w.alloc (.cells vs elem)) ∧ le s.n g (g.newSt w.heap.size vs.toList) ∧ Kept g (g.newSt w.heap.size vs.toList) w (w.alloc (.cells vs elem)) ∧
      FrameRep fm (g.newSt w.heap.size vs.toList) s.n nt A a.tmps ∧ (g.newSt w.heap.size vs.toList).st w.heap.size = vs.toList := by
  obtain ⟨f1, f2, f3⟩ := hS.fresh w.heap.size (Nat.le_refl _)
  have hle := newSt_le (g := g) (vs := vs.toList) s.n f2
  have hne : ∀ b, b ≠ w.heap.size → Fix g (g.newSt w.heap.size vs.toList) b := fun b hb => ⟨rfl, by simp [Gh.newSt, hb], by simp [Gh.newSt, hb]⟩
  have hown : ∀ b t, g.own b = t → t ≠ .free → b ≠ w.heap.size := fun b t hb ht e => ht (by rw [← hb, e, f1])
  refine ⟨?_, hle, ?_, hF.keep hle (Nat.le_refl _) (fun b d hb => hne b (hown b _ hb (by simp))), by simp [Gh.newSt]⟩
  · refine hS.step (· = w.heap.size) hS.size hle (Nat.le_refl _)
      (fun b hb => ⟨hne b hb, rfl, by rw [alloc_get, if_neg hb]⟩) (fun b h1 h2 => by rw [World.size_alloc] at h2; omega) (by rw [World.size_alloc]; omega) ?_ ?_ ?_ ?_ ?_ (fun b hb q e => by subst hb; rw [f1] at e; cases e)
    · intro r o' hr
      left
      refine ⟨hr, rfl, fun b hb e2 => ?_, fun c => rfl, fun b c hb => hown b _ hb (by simp)⟩
      obtain ⟨_, _, h3, _⟩ := hS.objn r b hb
      omega
    · intro r b hb
      left
      obtain ⟨_, _, h3, _⟩ := hS.objn r b hb
      exact ⟨hb, by omega⟩
    · intro b hb h
      subst hb
      exact ⟨vs, elem, (0, 0), by rw [alloc_get, if_pos rfl], by simp [Gh.newSt], by simp [Gh.newSt], fun _ => rfl⟩
    · intro b hb ks us h
      subst hb
      have : g.mst w.heap.size = some (ks, us) := h
      rw [f3] at this
      cases this
    · intro b hb h
      subst hb
      rw [World.size_alloc] at h
      omega
  · refine ⟨?_, rfl, rfl, fun _ _ _ => rfl⟩
    intro b q hb
    have := hown b _ hb (by simp)
    exact ⟨hne b this, by rw [alloc_get, if_neg this]⟩

theorem newMap_sound (hS : Sim fm s g w) (hF : FrameRep fm g s.n nt A a.tmps) :
    Post fm nt g w s (s.push (.map [] [])) A a.tmps (.map s.n) (.map (some w.heap.size)) (g.newObj s.n w.heap.size) (w.alloc (.map #[] 0)) := by
  have h := newObj_sound (o := .map [] []) (ob := .map #[] 0) hS hF ⟨#[], 0, by rw [alloc_get, if_pos rfl], .nil, .nil⟩
  exact ⟨h.sim, h.le, h.n, h.kept, h.frame, .map _ _ (by simp [ASt.push]) (by simp [Gh.newObj])⟩

end
end Go.Proofs.YtdhgdpokdhjanaaGreat.Abs
