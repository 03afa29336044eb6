/- Stores into objects. -/
import Derived.Test.YtdhgdpokdhjanaaGreatA12
set_option linter.unusedSimpArgs false
set_option linter.unusedVariables false
namespace Go.Proofs.YtdhgdpokdhjanaaGreat.Abs
open Go

section
variable {P : Program} {fm : Nat → Nat} {g g' : Gh} {s s' : ASt} {n n' nt : Nat} {A : Frame} {a : Act} {w w' : World}

theorem setL_length : ∀ (os : List AObj) (n r : Nat) (x : AObj), (setL os n r x).length = os.length
  | [], _, _, _ => rfl
  | _ :: _, 0, _, _ => rfl
  | o :: os, n + 1, r, x => by
    simp only [setL]
    split
    · rfl
    · simp [setL_length os n r x]
theorem getL_setL_same : ∀ {os : List AObj} {n r : Nat} {o x : AObj}, getL os n r = some o → getL (setL os n r x) n r = some x
  | [], _, _, _, _, h => by simp [getL] at h
  | _ :: _, 0, _, _, _, h => by simp [getL] at h
  | y :: os, n + 1, r, o, x, h => by
    simp only [getL, setL] at h ⊢
    by_cases e : r = n
    · simp [e, getL]
    · rw [if_neg e] at h ⊢
      simp only [getL, if_neg e]
      exact getL_setL_same h
theorem getL_setL_other : ∀ {os : List AObj} {n r k : Nat} {x : AObj}, k ≠ r → getL (setL os n r x) n k = getL os n k
  | [], _, _, _, _, _ => rfl
  | _ :: _, 0, _, _, _, _ => rfl
  | y :: os, n + 1, r, k, x, h => by
    simp only [setL]
    by_cases e : r = n
    · simp only [e, if_true, getL]
      subst e
      rw [if_neg h, if_neg h]
    · rw [if_neg e]
      simp only [getL]
      split
      · rfl
      · exact getL_setL_other h

theorem ASt.get_set_same {r : Nat} {o x : AObj} (h : s.get r = some o) : (s.set r x).get r = some x := getL_setL_same h
theorem ASt.get_set_other {r k : Nat} {x : AObj} (h : k ≠ r) : (s.set r x).get k = s.get k := getL_setL_other h
theorem ASt.set_n (s : ASt) (r : Nat) (x : AObj) : (s.set r x).n = s.n := rfl

theorem one_cell {x : AVal} {v : Value} (h : Rep fm g n x v) (h1 : x.one = true) : v.oneCell' = true := by
  cases h <;> simp [AVal.one] at h1 <;> rfl

theorem setRow_get (w : World) {b : Nat} {c c' : Array Value} {elem : Nat} {fr : Nat × Nat} (h : w.heap[b]? = some (.cells c elem fr)) (k : Nat) :
    (w.setRow b c').heap[k]? = if k = b then some (.cells c' elem fr) else w.heap[k]? := by
  have hlt : b < w.heap.size := (Array.getElem?_eq_some_iff.1 h).1
  by_cases e : k = b
  · subst e
    rw [if_pos rfl]
    exact setRow_heap w k c c' elem fr h
  · rw [if_neg e]
    simp [World.setRow, Array.getElem?_modify, Ne.symm e]

theorem setRow_size (w : World) (b : Nat) (c' : Array Value) : (w.setRow b c').heap.size = w.heap.size := by simp [World.setRow]

theorem splice_length {cs new : List AVal} {off : Nat} (h : off + new.length ≤ cs.length) : (splice cs off new).length = cs.length := by
  simp [splice]; omega

theorem splice_get {α : Type} {cs new : List α} {off i : Nat} (h : off + new.length ≤ cs.length) :
    (cs.take off ++ new ++ cs.drop (off + new.length))[i]? = if off ≤ i ∧ i < off + new.length then new[i - off]? else cs[i]? := by
  have e1 : (cs.take off).length = off := by simp; omega
  by_cases h1 : i < off
  · rw [if_neg (by omega), List.append_assoc, List.getElem?_append_left (by omega), List.getElem?_take, if_pos h1]
  · by_cases h2 : i < off + new.length
    · rw [if_pos (by omega), List.getElem?_append_left (by simp; omega), List.getElem?_append_right (by omega), e1]
    · rw [if_neg (by omega), List.getElem?_append_right (by simp; omega), List.getElem?_drop]
      congr 1
      simp
      omega

theorem mayPutL_get : ∀ {old new : List AVal} {i : Nat} {x y : AVal}, mayPutL old new = true → old[i]? = some x → new[i]? = some y → mayPut x y = true
  | [], [], i, _, _, _, _, h => by simp at h
  | _, [], i, _, _, _, _, h => by simp at h
  | [], _ :: _, _, _, _, h, _, _ => by simp [mayPutL] at h
  | a :: l, b :: m, 0, x, y, h, h1, h2 => by
    simp only [mayPutL, Bool.and_eq_true] at h
    simp at h1 h2
    subst h1; subst h2
    exact h.1
  | a :: l, b :: m, i + 1, x, y, h, h1, h2 => by
    simp only [mayPutL, Bool.and_eq_true] at h
    exact mayPutL_get h.2 (by simpa using h1) (by simpa using h2)

theorem underL_get : ∀ {k : Nat} {cs : List AVal} {i : Nat} {x : AVal}, underL k cs = true → cs[i]? = some x → x.under k = true
  | _, [], _, _, _, h => by simp at h
  | _, a :: l, 0, x, h, h1 => by simp [underL] at h; simp at h1; subst h1; exact h.1
  | _, a :: l, i + 1, x, h, h1 => by simp [underL] at h; exact underL_get h.2 (by simpa using h1)

/-- A cell without spare places known of it has no row behind it. -/
theorem CellRep.vec_none {r c : Nat} {x : AVal} {v : Value} (h : CellRep fm g r c x v) (h1 : ∀ cs len z, x ≠ .sl cs len (.mine z)) (h2 : ∀ cs len, x ≠ .sl cs len .moved) : g.vec r c = none := by
  cases x
  case sl cs len o =>
    cases o with
    | none => exact h.2
    | exact => exact h.2
    | moved => exact absurd rfl (h2 cs len)
    | mine z => exact absurd rfl (h1 cs len z)
    | loc a b => exact h.elim
  all_goals exact h.2

/-- The cells of object r are written over, with values that own nothing. -/
theorem write_plain {r off b : Nat} {cs new : List AVal} {vs : List Value} {c : Array Value} {elem : Nat} (hS : Sim fm s g w) (hF : FrameRep fm g s.n nt A a.tmps)
    (hr : s.get r = some (.cells cs)) (hb : g.obj r = some b) (hw : w.heap[b]? = some (.cells c elem (0, 0))) (hle : off + new.length ≤ cs.length) (hmay : mayPutL (cs.drop off) new = true)
    (hnew : RepL fm g (r + 1) new vs) :
    let w' := w.setRow b (c.toList.take off ++ vs ++ c.toList.drop (off + vs.length)).toArray
    Sim fm (s.set r (.cells (splice cs off new))) g w' ∧ Kept g g w w' ∧ FrameRep fm g s.n nt A a.tmps := by
  intro w'
  obtain ⟨c', elem', hw2, hsz, hcells⟩ := hS.objs r _ hr b hb
  rw [hw] at hw2
  cases hw2
  obtain ⟨o1, o2, o3, o4, o5⟩ := hS.objn r b hb
  have hl := hnew.length
  have hcl : c.toList.length = cs.length := by simp [hsz]
  have hget : ∀ k, w'.heap[k]? = if k = b then some (.cells (c.toList.take off ++ vs ++ c.toList.drop (off + vs.length)).toArray elem (0, 0)) else w.heap[k]? := setRow_get w hw
  refine ⟨?_, ⟨fun x q hx => ⟨⟨rfl, rfl, rfl⟩, ?_⟩, rfl, rfl, fun _ _ _ => rfl⟩, hF⟩
  · refine hS.step (· = b) (by simp [ASt.set, setL_length, hS.size]) (le.refl _ _) (Nat.le_refl _) (fun x hx => ⟨⟨rfl, rfl, rfl⟩, rfl, by rw [hget, if_neg hx]⟩)
      (fun x h1 h2 => by rw [setRow_size] at h2; omega) (by rw [setRow_size]; exact Nat.le_refl _) ?_ ?_ ?_ ?_ ?_ (fun x hx q e => by rw [hx, o2] at e; cases e)
    · intro k o hk
      by_cases e : k = r
      · subst e
        rw [ASt.get_set_same hr] at hk
        cases hk
        right
        intro b' hb'
        rw [hb] at hb'
        cases hb'
        refine ⟨_, elem, by rw [hget, if_pos rfl], ?_, ?_⟩
        · simp only [List.size_toArray]
          rw [splice_length hle]
          simp
          omega
        · intro i x hx
          unfold splice at hx
          rw [splice_get hle] at hx
          simp only [List.getElem?_toArray]
          rw [splice_get (by rw [← hl]; omega), ← hl]
          split at hx
          · rename_i hi
            rw [if_pos hi]
            obtain ⟨v, h1, h2⟩ := hnew.get _ _ hx
            refine ⟨v, h1, h2.cell ?_⟩
            have hlt : i < cs.length := by omega
            obtain ⟨u, hu, hcr⟩ := hcells i cs[i] (by simp [hlt])
            have hmp := mayPutL_get (i := i - off) (x := cs[i]) hmay (by simp [show off + (i - off) = i from by omega, hlt]) hx
            refine hcr.vec_none ?_ ?_
            · intro ds len z e
              rw [e] at hmp
              cases h2 <;> simp [mayPut] at hmp
              rename_i ho _ _ _
              rcases ho with rfl | ⟨rfl, _⟩ <;> simp at hmp
            · intro ds len e
              rw [e] at hmp
              cases h2 <;> simp [mayPut] at hmp
              rename_i ho _ _ _
              rcases ho with rfl | ⟨rfl, _⟩ <;> simp at hmp
          · rename_i hi
            rw [if_neg hi]
            obtain ⟨v, h1, h2⟩ := hcells i x hx
            exact ⟨v, by simpa using h1, h2⟩
      · rw [ASt.get_set_other e] at hk
        left
        refine ⟨hk, rfl, fun b' hb' e2 => ?_, fun _ => rfl, fun b' c' hb' e2 => ?_⟩
        · subst e2
          obtain ⟨_, q2, _⟩ := hS.objn k b' hb'
          rw [o2] at q2
          cases q2
          exact e rfl
        · subst e2
          rw [o2] at hb'
          cases hb'
    · intro k b' hb'
      by_cases e : b' = b
      · right
        subst e
        obtain ⟨q1, q2, q3, q4, q5⟩ := hS.objn k b' hb'
        exact ⟨q1, q2, by rw [setRow_size]; exact q3, q4, q5⟩
      · exact .inl ⟨hb', e⟩
    · intro x hx h
      subst hx
      rcases h with h | h
      · exact absurd o4 h
      · rw [o2] at h; simp [Tag.held] at h
    · intro x hx ks us h
      subst hx
      rw [o5] at h
      cases h
    · intro x hx h
      subst hx
      rw [setRow_size] at h
      omega
  · have : x ≠ b := fun e => by rw [e, o2] at hx; cases hx
    rw [hget, if_neg this]

def Gh.inCell (g : Gh) (b r c : Nat) (v : Value) (k : Nat) : Gh :=
  { g with own := fun x => if x = b then .cell r c else g.own x, vec := fun x y => if x = r ∧ y = c then some (v, k) else g.vec x y }

/-- One cell of object r is written over, with a slice and the places behind it. -/
theorem write_mine {r off b len z : Nat} {cs ds : List AVal} {v : Value} {c : Array Value} {elem : Nat} (hS : Sim fm s g w) (hF : FrameRep fm g s.n nt A a.tmps)
    (hr : s.get r = some (.cells cs)) (hb : g.obj r = some b) (hw : w.heap[b]? = some (.cells c elem (0, 0))) (hle : off + 1 ≤ cs.length) (hmay : mayPutL (cs.drop off) [.sl ds len (.mine z)] = true)
    (hnew : SlotRep fm g s.n .res (.sl ds len (.mine z)) v) (hu : underL (r + 1) ds = true) :
    let w' := w.setRow b (c.toList.take off ++ [v] ++ c.toList.drop (off + 1)).toArray
    ∃ g', Sim fm (s.set r (.cells (splice cs off [.sl ds len (.mine z)]))) g' w' ∧ le s.n g g' ∧ Kept g g' w w' ∧ FrameRep fm g' s.n nt A a.tmps := by
  intro w'
  obtain ⟨c', elem', hw2, hsz, hcells⟩ := hS.objs r _ hr b hb
  rw [hw] at hw2
  cases hw2
  obtain ⟨o1, o2, o3, o4, o5⟩ := hS.objn r b hb
  obtain ⟨b2, base, cap, vs, hv, m2, m3, m4, m5, m6, m7⟩ := hnew
  have hcl : c.toList.length = cs.length := by simp [hsz]
  have hget : ∀ k, w'.heap[k]? = if k = b then some (.cells (c.toList.take off ++ [v] ++ c.toList.drop (off + 1)).toArray elem (0, 0)) else w.heap[k]? := setRow_get w hw
  have hb2 : b2 ≠ b := fun e => by rw [e, o2] at m7; cases m7
  have hfix : ∀ x, x ≠ b2 → Fix g (g.inCell b2 r off v ds.length) x := fun x hx => ⟨by simp [Gh.inCell, hx], rfl, rfl⟩
  have hlt : off < cs.length := by omega
  obtain ⟨u, hu1, hcr⟩ := hcells off cs[off] (by simp [hlt])
  have hmp := mayPutL_get (i := 0) (x := cs[off]) hmay (by simp [hlt]) rfl
  have hle' : le s.n g (g.inCell b2 r off v ds.length) := by
    refine ⟨fun _ _ _ h => h, fun _ => List.prefix_refl _, fun _ _ h => h, fun q hq k h0 k0 e => ?_⟩
    by_cases hqk : q = r ∧ k = off
    · obtain ⟨rfl, rfl⟩ := hqk
      refine ⟨v, ds.length, by simp [Gh.inCell], ?_⟩
      have : k0 < ds.length := by
        generalize hx : cs[k] = x at *
        cases x
        case sl es el o =>
          cases o with
          | mine z' =>
            obtain ⟨_, _, _, _, _, _, _, _, _, _, _, hvec⟩ := hcr
            rw [hvec] at e
            cases e
            simpa [mayPut] using hmp
          | moved =>
            obtain ⟨_, hvec⟩ := hcr
            rw [hvec] at e
            cases e
            simpa [mayPut] using hmp
          | none => rw [hcr.2] at e; cases e
          | exact => rw [hcr.2] at e; cases e
          | loc _ _ => exact hcr.elim
        all_goals (rw [hcr.2] at e; cases e)
      exact ⟨by omega, fun h => by omega⟩
    · exact ⟨h0, k0, by simp only [Gh.inCell, if_neg hqk]; exact e, Nat.le_refl _, fun _ => rfl⟩
  refine ⟨g.inCell b2 r off v ds.length, ?_, hle', ⟨fun x q hx => ⟨?_, ?_⟩, rfl, rfl, fun _ _ _ => rfl⟩, hF.keep hle' (Nat.le_refl _) (fun x d hx => hfix x (fun e => by rw [e, m7] at hx; cases hx))⟩
  · refine hS.step (fun x => x = b ∨ x = b2) (by simp [ASt.set, setL_length, hS.size]) hle' (Nat.le_refl _)
      (fun x hx => ⟨hfix x (fun e => hx (.inr e)), rfl, by rw [hget, if_neg (fun e => hx (.inl e))]⟩)
      (fun x h1 h2 => by rw [setRow_size] at h2; omega) (by rw [setRow_size]; exact Nat.le_refl _) ?_ ?_ ?_ ?_ ?_ (fun x hx q e => by rcases hx with hx | hx; (rw [hx, o2] at e; cases e); (rw [hx, m7] at e; cases e))
    · intro k o hk
      by_cases e : k = r
      · subst e
        rw [ASt.get_set_same hr] at hk
        cases hk
        right
        intro b' hb'
        have hb'' : g.obj k = some b' := hb'
        rw [hb] at hb''
        cases hb''
        refine ⟨_, elem, by rw [hget, if_pos rfl], ?_, ?_⟩
        · simp only [List.size_toArray]
          rw [splice_length (by simpa using hle)]
          simp
          omega
        · intro i x hx
          unfold splice at hx
          rw [splice_get (by simpa using hle)] at hx
          simp only [List.getElem?_toArray]
          have := splice_get (cs := c.toList) (new := [v]) (off := off) (i := i) (by simp; omega)
          simp only [List.length_singleton] at this hx
          rw [this]
          by_cases hi : off ≤ i ∧ i < off + 1
          · rw [if_pos hi] at hx ⊢
            have hio : i = off := by omega
            subst hio
            simp only [Nat.sub_self, List.getElem?_cons_zero, Option.some.injEq] at hx ⊢
            subst hx
            refine ⟨v, rfl, b2, base, cap, vs, hv, m2, (m3.lower hu).mono (hle'.less (by omega)) (Nat.le_refl _), m4, m5, m6, by simp [Gh.inCell], by simp [Gh.inCell]⟩
          · rw [if_neg hi] at hx ⊢
            obtain ⟨y, h1, h2⟩ := hcells i x hx
            refine ⟨y, by simpa using h1, h2.mono (hle'.less (by omega)) (fun b' hb' => hfix b' (fun e => by rw [e, m7] at hb'; cases hb')) ?_⟩
            simp only [Gh.inCell]
            rw [if_neg (by omega)]
      · rw [ASt.get_set_other e] at hk
        left
        refine ⟨hk, rfl, fun b' hb' e2 => ?_, fun y => by simp [Gh.inCell, e], fun b' c' hb' e2 => ?_⟩
        · obtain ⟨_, q2, _⟩ := hS.objn k b' hb'
          rcases e2 with rfl | rfl
          · rw [o2] at q2
            cases q2
            exact e rfl
          · rw [m7] at q2
            cases q2
        · rcases e2 with rfl | rfl
          · rw [o2] at hb'
            cases hb'
          · rw [m7] at hb'
            cases hb'
    · intro k b' hb'
      by_cases e : b' = b
      · right
        subst e
        obtain ⟨q1, q2, q3, q4, q5⟩ := hS.objn k b' hb'
        exact ⟨q1, by simp [Gh.inCell, Ne.symm hb2, q2], by rw [setRow_size]; exact q3, q4, q5⟩
      · have hb'' : g.obj k = some b' := hb'
        obtain ⟨q1, q2, _⟩ := hS.objn k b' hb''
        exact .inl ⟨hb'', fun h => h.elim e (fun h => by rw [h, m7] at q2; cases q2)⟩
    · intro x hx h
      rcases hx with rfl | rfl
      · rcases h with h | h
        · exact absurd o4 h
        · simp [Gh.inCell, Ne.symm hb2, o2, Tag.held] at h
      · obtain ⟨d, el, fr, q1, q2, q3, q4⟩ := hS.st x (.inr (by rw [m7]; rfl))
        exact ⟨d, el, fr, by rw [hget, if_neg hb2]; exact q1, q2, q3, fun _ => q4 (by rw [m7]; rfl)⟩
    · intro x hx ks us h
      have h : g.mst x = some (ks, us) := h
      rcases hx with rfl | rfl
      · rw [o5] at h
        cases h
      · obtain ⟨es, clock, q1, _⟩ := hS.mst x ks us h
        obtain ⟨d, el, fr, q2, _⟩ := hS.st x (.inr (by rw [m7]; rfl))
        rw [q1] at q2
        cases q2
    · intro x hx h
      rw [setRow_size] at h
      rcases hx with rfl | rfl
      · omega
      · obtain ⟨e1, _⟩ := hS.fresh x h
        rw [m7] at e1
        cases e1
  · exact hfix x (fun e => by rw [e, m7] at hx; cases hx)
  · have : x ≠ b := fun e => by rw [e, o2] at hx; cases hx
    rw [hget, if_neg this]

end
end Go.Proofs.YtdhgdpokdhjanaaGreat.Abs
