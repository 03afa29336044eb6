/- Loads. -/
import Derived.Test.YtdhgdpokdhjanaaGreatA5
import Derived.Laws.Cells
set_option linter.unusedSimpArgs false
set_option linter.unusedVariables false
namespace Go.Proofs.YtdhgdpokdhjanaaGreat.Abs
open Go

section
variable {P : Program} {fm : Nat → Nat} {g : Gh} {s : ASt} {n nt : Nat} {A : Frame} {a : Act} {w : World}

theorem add_mk (b off k : Nat) : (⟨b, off, none⟩ : Addr).add k = ⟨b, off + k, none⟩ := by
  unfold Addr.add
  split
  · rename_i h; subst h; rfl
  · rfl

theorem getL_lt : ∀ {os : List AObj} {n r : Nat} {o : AObj}, getL os n r = some o → r < n
  | [], _, _, _, h => by simp [getL] at h
  | _ :: _, 0, _, _, h => by simp [getL] at h
  | x :: os, n + 1, r, o, h => by
    simp only [getL] at h
    split at h
    · omega
    · have := getL_lt h; omega
theorem ASt.get_lt {r : Nat} {o : AObj} (h : s.get r = some o) : r < s.n := getL_lt h

theorem prefix_get {α : Type} {vs l : List α} {k i : Nat} {v : α} (hp : vs <+: l.drop k) (h : vs[i]? = some v) : l[k + i]? = some v := by
  obtain ⟨t, ht⟩ := hp
  have : (l.drop k)[i]? = some v := by
    rw [← ht, List.getElem?_append_left (by exact (List.getElem?_eq_some_iff.1 h).1)]; exact h
  simpa using this

theorem Sim.cell (hS : Sim fm s g w) {vs : List Value} {b base i : Nat} {v : Value} (hp : vs <+: (g.st b).drop base) (h : vs[i]? = some v) :
    w.cell? ⟨b, base + i, none⟩ = some v := by
  have h1 := prefix_get hp h
  have hne : g.st b ≠ [] := by intro e; simp [e] at h1
  obtain ⟨c, elem, fr, hb, hpre, _⟩ := hS.st b (.inl hne)
  have h2 := prefix_get (k := 0) (by simpa using hpre) h1
  simp only [World.cell?, hb]
  simpa using h2

theorem CellRep.strip {r i : Nat} {x : AVal} {v : Value} (h : CellRep fm g r i x v) (hr : r < n) : Rep fm g n x.strip v := by
  have up : ∀ {y : AVal} {u : Value}, Rep fm g (r + 1) y u → Rep fm g n y u := fun h => h.mono (le.refl _ _) (by omega)
  cases x
  case sl cs len o =>
    cases o with
    | none => exact up h.1
    | exact => exact up h.1
    | moved => exact up h.1
    | mine z =>
      obtain ⟨b, base, cap, vs, rfl, hc, hR, hp, _⟩ := h
      exact up (.sl _ _ _ _ _ _ _ (.inl rfl) hc hR hp)
    | loc r c => exact h.elim
  all_goals exact up h.1

theorem CellRep.read {r i bb : Nat} {x : AVal} {v : Value} {t : Tag} (h : CellRep fm g r i x v) (hr : r < n) (hb : g.obj r = some bb) : SlotRep fm g n t (x.read r i) v := by
  cases x
  case sl cs len o =>
    cases o with
    | none => exact (h.strip hr).slot
    | exact => exact (h.strip hr).slot
    | moved => exact (h.strip hr).slot
    | mine z =>
      have h1 := h.strip hr
      obtain ⟨b, base, cap, vs, rfl, hc, hR, hp, hx, hy, hz, hv⟩ := h
      exact ⟨h1, hr, ⟨bb, hb⟩, _, _, hv, Nat.le_refl _, fun _ => rfl⟩
    | loc r c => exact h.elim
  all_goals exact (h.strip hr).slot

theorem cells_strip {r : Nat} (hr : r < n) : ∀ {cs : List AVal} {vs : List Value} (k : Nat), cs.length = vs.length →
    (∀ i x, cs[i]? = some x → ∃ v, vs[i]? = some v ∧ CellRep fm g r (k + i) x v) → RepL fm g n (cs.map AVal.strip) vs
  | [], [], _, _, _ => .nil
  | [], _ :: _, _, h, _ => by simp at h
  | _ :: _, [], _, h, _ => by simp at h
  | x :: cs, v :: vs, k, h, hc => by
    obtain ⟨u, hu, hR⟩ := hc 0 x rfl
    simp only [List.getElem?_cons_zero, Option.some.injEq] at hu
    subst hu
    refine .cons _ _ _ _ (hR.strip hr) (cells_strip hr (k + 1) (by simpa using h) ?_)
    intro i y hy
    obtain ⟨u, hu, hR⟩ := hc (i + 1) y (by simpa using hy)
    exact ⟨u, by simpa using hu, by rw [show k + 1 + i = k + (i + 1) from by omega]; exact hR⟩

theorem cut_some {cs l : List AVal} {off k : Nat} (h : cut cs off k = some l) : off + k ≤ cs.length ∧ l = (cs.drop off).take k ∧ l.length = k := by
  unfold cut at h
  split at h
  · cases h; exact ⟨by assumption, rfl, by simp; omega⟩
  · cases h

theorem load_run {t k : Nat} {agg : Bool} {x v : AVal} {cx : Value} {tg : Tag} (hS : Sim fm s g w) (hx : Rep fm g s.n x cx) (ha : aggIs P t agg = true) (hz : sizeIs P t k = true)
    (h : loadAt s k agg x = some v) : ∃ cv, (Instr.loadAt t cx).run P w = .ok cv w ∧ SlotRep fm g s.n tg v cv := by
  cases x <;> simp only [loadAt] at h <;> try (cases h; done)
  case ref r off =>
    split at h
    · rename_i cs hr
      cases hx with
      | ref _ _ b hlt hb =>
      obtain ⟨c, elem, hw, hsz, hcells⟩ := hS.objs r _ hr b hb
      have hcell : ∀ i u, c[i]? = some u → w.cell? ⟨b, i, none⟩ = some u := fun i u hu => by simp [World.cell?, hw, hu]
      simp only [Instr.loadAt, Instr.sureAddr, loadVar, Sem.run_bind, Sem.run_pure, Result.andThen_ok, run_isAgg ha]
      cases agg with
      | true =>
        simp only [if_true] at h ⊢
        obtain ⟨l, hl, rfl⟩ := map_some' h
        obtain ⟨hle, rfl, hlen⟩ := cut_some hl
        have hall := cells_strip (n := s.n) hlt (cs := cs) (vs := c.toList) 0 (by simp [hsz]) (fun i x hx => by
          obtain ⟨u, h1, h2⟩ := hcells i x hx
          exact ⟨u, by simpa using h1, by simpa using h2⟩)
        have hpart := (hall.drop off).take k
        have hl2 : ((c.toList.drop off).take k).length = k := by simp [hsz]; omega
        have hrun := run_loadCells_list (P := P) (w := w) ⟨b, off, none⟩ ((c.toList.drop off).take k) (fun j u hu => by
          rw [add_mk]
          apply hcell
          rw [List.getElem?_take] at hu
          split at hu
          · simpa using hu
          · cases hu)
        rw [hl2] at hrun
        simp only [Sem.run_bind, run_sizeOf hz, Result.andThen_ok, hrun, Sem.run_pure]
        refine ⟨_, rfl, ?_⟩
        rw [List.map_take, List.map_drop]
        exact Rep.slot (.agg _ _ hpart)
      | false =>
        simp only [Bool.false_eq_true, if_false] at h ⊢
        obtain ⟨x, hx, rfl⟩ := map_some' h
        obtain ⟨u, hu, hR⟩ := hcells off x hx
        refine ⟨u, by simp [hcell off u hu], hR.read hlt hb⟩
    · cases h
  case ipt cs off =>
    obtain ⟨l, hl, hm⟩ := bind_some' h
    obtain ⟨hle, rfl, hlen⟩ := cut_some hl
    cases hx with
    | ipt _ _ b base vs hR hp =>
    have hcell : ∀ i u, vs[i]? = some u → w.cell? ⟨b, base + i, none⟩ = some u := fun i u hu => hS.cell hp hu
    have hlv := hR.length
    simp only [Instr.loadAt, Instr.sureAddr, loadVar, Sem.run_bind, Sem.run_pure, Result.andThen_ok, run_isAgg ha]
    cases agg with
    | true =>
      simp only [mk, if_true, Option.some.injEq] at hm ⊢
      subst hm
      have hl2 : ((vs.drop off).take k).length = k := by simp; omega
      have hrun := run_loadCells_list (P := P) (w := w) ⟨b, base + off, none⟩ ((vs.drop off).take k) (fun j u hu => by
        rw [add_mk, Nat.add_assoc]
        apply hcell
        rw [List.getElem?_take] at hu
        split at hu
        · simpa using hu
        · cases hu)
      rw [hl2] at hrun
      simp only [Sem.run_bind, run_sizeOf hz, Result.andThen_ok, hrun, Sem.run_pure]
      exact ⟨_, rfl, Rep.slot (.agg _ _ ((hR.drop off).take k))⟩
    | false =>
      simp only [mk, Bool.false_eq_true, if_false] at hm ⊢
      split at hm
      · rename_i x he
        cases hm
        have h1 : cs[off]? = some v := by
          have := congrArg (·[0]?) he
          simp only [List.getElem?_cons_zero] at this
          rw [List.getElem?_take] at this
          split at this
          · simpa using this
          · cases this
        obtain ⟨u, hu, hR'⟩ := hR.get off v h1
        exact ⟨u, by simp [hcell off u hu], hR'.slot⟩
      · cases hm

end
end Go.Proofs.YtdhgdpokdhjanaaGreat.Abs
