/- append. -/
import Derived.Test.YtdhgdpokdhjanaaGreatA13
set_option linter.unusedSimpArgs false
set_option linter.unusedVariables false
namespace Go.Proofs.YtdhgdpokdhjanaaGreat.Abs
open Go

section
variable {P : Program} {fm : Nat → Nat} {g g' : Gh} {s s' : ASt} {n n' nt : Nat} {A A1 : Frame} {a : Act} {w w' : World}

/-! ### What append does -/

def notInt : TypeDesc → Bool
  | .int _ => false
  | _ => true
def isStr : TypeDesc → Bool
  | .string => true
  | _ => false


theorem run_append_in {t u ty e : Nat} {i : TypeInfo} {d : TypeDesc} {x : Value} {k b off sLen sCap : Nat} {cur : Array Value} {te : Nat} {news : List Value}
    (ht : P.underlying t = some (.slice e)) (hu : P.underlying u = some d) (hd : notInt d = true) (hi : P.info? e = some i)
    (hl : (Builtin.lenOf x).run P w = .ok k w) (hf : (Builtin.firstCells i.size k x).run P w = .ok news.toArray w)
    (hg : w.heap[b]? = some (.cells cur te (0, 0))) (h1 : ∀ v ∈ news, v.oneCell' = true) (hroom : sLen + k ≤ sCap) (hfit : off + sLen * i.size + news.length ≤ cur.size) :
    (Builtin.append_ #[t, u] ty #[.slice (some ⟨b, off, none⟩) sLen sCap, x]).run P w =
      .ok (.slice (some ⟨b, off, none⟩) (sLen + k) sCap) (w.setRow b (cur.toList.take (off + sLen * i.size) ++ news ++ cur.toList.drop (off + sLen * i.size + news.length)).toArray) := by
  have hst := run_storeCells_at P b (off + sLen * i.size) te news 0 cur w hg (by simpa using hfit) h1
  simp only [Nat.add_zero] at hst
  cases d with
  | int _ => cases hd
  | _ => simp only [Builtin.append_, List.getElem?_toArray, List.getElem?_cons_zero, List.getElem?_cons_succ, Sem.run_bind, run_underlying ht, run_underlying hu, Result.andThen_ok, sizeOf, run_typeInfo hi, Sem.run_pure,
      Bool.false_eq_true, if_false, Bool.not_false, if_true, hl, if_pos hroom, hf, add_mk, hst]

theorem run_append_out {t u ty e : Nat} {i : TypeInfo} {d : TypeDesc} {x z : Value} {k sLen sCap : Nat} {base : Option Addr} {olds news : List Value}
    (ht : P.underlying t = some (.slice e)) (hu : P.underlying u = some d) (hd : notInt d = true) (hi : P.info? e = some i) (hz : i.zero = some z)
    (hl : (Builtin.lenOf x).run P w = .ok k w) (hf : (Builtin.firstCells i.size k x).run P w.drew = .ok news.toArray w.drew)
    (ho : (Builtin.firstCells i.size sLen (.slice base sLen sCap)).run P w.drew = .ok olds.toArray w.drew) (hlim : sLen + k ≤ 2 ^ 36) (hb : i.bytes ≤ 128)
    (hgrow : sCap < sLen + k) :
    (Builtin.append_ #[t, u] ty #[.slice base sLen sCap, x]).run P w =
      .ok (.slice (some ⟨w.heap.size, 0, none⟩) (sLen + k) (grownCap w (sLen + k) sCap e))
        (w.drew.alloc (.cells (olds ++ news ++ (Builtin.zeroCells z.cells (grownCap w (sLen + k) sCap e - (sLen + k))).toList).toArray e)) := by
  have hn : ¬ (sLen + k ≤ sCap) := by omega
  have h63 : ¬ (((sLen + k : Nat) : Int) > IntKind.i64.max ∧ (false = true ∨ i.bytes = 0)) := by
    intro h
    have : IntKind.i64.max = 9223372036854775807 := by decide
    omega
  have hfit : ¬ (Builtin.nextslicecap (sLen + k) sCap * i.bytes > 2 ^ 48) := by
    have h1 := nextslicecap_le hgrow
    have h2 : Builtin.nextslicecap (sLen + k) sCap * i.bytes ≤ (2 * 2 ^ 36) * 128 := Nat.mul_le_mul (by omega) hb
    omega
  have h63' : ¬ (((sLen + k : Nat) : Int) > IntKind.i64.max ∧ (i.bytes = 0)) := fun h => h63 ⟨h.1, .inr h.2⟩
  have hch : (choose (.appendCap (sLen + k) sCap e)).run P w = .ok (grownCap w (sLen + k) sCap e) w.drew := by
    simp [Question.forced, grownCap]
  cases d with
  | int _ => cases hd
  | _ =>
    simp only [Builtin.append_, List.getElem?_toArray, List.getElem?_cons_zero, List.getElem?_cons_succ, Sem.run_bind, run_underlying ht, run_underlying hu, Result.andThen_ok, sizeOf, run_typeInfo hi, Sem.run_pure,
      Bool.false_eq_true, if_false, Bool.not_false, if_true, hl, if_neg hn, if_neg hfit, false_or, if_neg h63', hch, run_askRoom, ho, hf, zeroValue, hz, newRow, run_newObj, World.alloc_eq]
    simp
    congr 2
    apply Array.ext'
    simp

/-! ### What is appended, and onto what -/

theorem new_run {y : AVal} {cy : Value} {new : List AVal} {k size t e : Nat} {d : TypeDesc} (hS : Sim fm s g w) (hy : Rep fm g s.n y cy) (h : newCells y = some (new, k)) (hlen : new.length = k * size)
    
    :
    ∃ news : List Value, (Builtin.lenOf cy).run P w = .ok k w ∧ (∀ wx : World, wx.heap = w.heap → (Builtin.firstCells size k cy).run P wx = .ok news.toArray wx) ∧ RepL fm g s.n new news := by
  cases y <;> simp only [newCells] at h <;> try (cases h; done)
  case nils =>
    cases h
    cases hy
    exact ⟨[], by simp [Builtin.lenOf], fun wx _ => by simp [Builtin.firstCells], .nil⟩
  case str l =>
    cases h
    rw [hy.str_inv]
    have hs : (ByteArray.mk l.toArray).size = l.length := by simp [ByteArray.size]
    refine ⟨l.map fun b => .int .u8 b.toNat, by simp [Builtin.lenOf, hs], fun wx _ => ?_, ?_⟩
    · simp only [Builtin.firstCells, Sem.run_pure]
      congr 1
      apply Array.ext'
      simp [ByteArray.data_extract]
    · unfold byteCells
      clear hlen hs hy
      induction l with
      | nil => exact .nil
      | cons b l ih => exact .cons _ _ _ _ (.int _ _) ih
  case sl cs len o =>
    cases h
    cases hy with
    | sl0 ad cap =>
      refine ⟨[], by simp [Builtin.lenOf], fun wx hwx => ?_, .nil⟩
      have := run_loadCells_list (P := P) (w := wx) ad [] (fun j v hj => by simp at hj)
      simp only [Builtin.firstCells]
      rw [← hlen]
      exact this
    | sl _ _ _ b base cap vs ho hc hR hp =>
    refine ⟨vs, by simp [Builtin.lenOf], fun wx hwx => ?_, hR⟩
    have hl := hR.length
    have := run_loadCells_list (P := P) (w := wx) ⟨b, base, none⟩ vs (fun j v hj => by
      rw [add_mk]
      have := hS.cell hp hj
      simpa [World.cell?, hwx] using this)
    simp only [Builtin.firstCells]
    rw [← hlen, hl]
    exact this

/-- The cell c of object r gives its slice away. -/
theorem move_out {r c b z m : Nat} {os ds : List AVal} (hS : Sim fm s g w) (hF : FrameRep fm g s.n nt A a.tmps) (hr : s.get r = some (.cells os)) (hc : os[c]? = some (.sl ds m (.mine z))) (hb : g.obj r = some b)
    {cv : Value} (hcv : ∃ ca el, w.heap[b]? = some (.cells ca el (0, 0)) ∧ ca[c]? = some cv) :
    ∃ g1, Sim fm (s.set r (.cells (os.set c (.sl ds m .moved)))) g1 w ∧ le s.n g g1 ∧ Kept g g1 w w ∧ FrameRep fm g1 s.n nt A a.tmps ∧ SlotRep fm g1 s.n .res (.sl ds m (.mine z)) cv := by
  obtain ⟨ca, el, hw, hca⟩ := hcv
  obtain ⟨ca', el', hw', hsz, hcells⟩ := hS.objs r _ hr b hb
  rw [hw] at hw'
  cases hw'
  obtain ⟨v, hv, hcr⟩ := hcells c _ hc
  rw [hca] at hv
  cases hv
  have hrep := hcr.strip (n := s.n) (ASt.get_lt hr)
  have hcr0 := hcr
  obtain ⟨b2, base, cap, vs, e1, e2, e3, e4, e5, e6, e7, e8⟩ := hcr
  obtain ⟨o1, o2, o3, o4, o5⟩ := hS.objn r b hb
  have hfix : ∀ x, x ≠ b2 → Fix g (g.tag b2 .res) x := fun x hx => ⟨by simp [Gh.tag, hx], rfl, rfl⟩
  have hb2 : b2 ≠ b := fun e => by rw [e, o2] at e7; cases e7
  refine ⟨g.tag b2 .res, ?_, tag_le _ _ _, ⟨fun x q hx => ⟨?_, rfl⟩, rfl, rfl, fun _ _ _ => rfl⟩, hF.keep (tag_le _ _ _) (Nat.le_refl _) (fun x d hx => hfix x (fun e => by rw [e, e7] at hx; cases hx)), ?_⟩
  · refine hS.step (fun x => x = b ∨ x = b2) (by simp [ASt.set, setL_length, hS.size]) (tag_le _ _ _) (Nat.le_refl _)
      (fun x hx => ⟨hfix x (fun e => hx (.inr e)), rfl, rfl⟩) (fun x h1 h2 => by omega) (Nat.le_refl _) ?_ ?_ ?_ ?_ ?_ (fun x hx q e => by rcases hx with hx | hx; (rw [hx, o2] at e; cases e); (rw [hx, e7] at e; cases e))
    · intro k o hk
      by_cases e : k = r
      · subst e
        rw [ASt.get_set_same hr] at hk
        cases hk
        right
        intro b' hb'
        have hb'' : g.obj k = some b' := hb'
        rw [hb] at hb''
        cases hb''
        refine ⟨ca, el, hw, by simp [hsz], ?_⟩
        intro i x hx
        rw [List.getElem?_set] at hx
        by_cases hi : c = i
        · subst hi
          rw [if_pos rfl] at hx
          split at hx
          · cases hx
            refine ⟨cv, hca, ?_, e8⟩
            exact (hcr0.strip (n := k + 1) (Nat.lt_succ_self k)).mono (tag_le _ _ _) (Nat.le_refl _)
          · cases hx
        · rw [if_neg hi] at hx
          obtain ⟨y, h1, h2⟩ := hcells i x hx
          refine ⟨y, h1, h2.mono (tag_le _ _ _) (fun b' hb' => hfix b' (fun e => by rw [e, e7] at hb'; cases hb'; exact hi rfl)) rfl⟩
      · rw [ASt.get_set_other e] at hk
        left
        refine ⟨hk, rfl, fun b' hb' e2 => ?_, fun _ => rfl, fun b' c' hb' e2 => ?_⟩
        · obtain ⟨_, q2, _⟩ := hS.objn k b' hb'
          rcases e2 with rfl | rfl
          · rw [o2] at q2; cases q2; exact e rfl
          · rw [e7] at q2; cases q2
        · rcases e2 with rfl | rfl
          · rw [o2] at hb'; cases hb'
          · rw [e7] at hb'; cases hb'; exact e rfl
    · intro k b' hb'
      by_cases e : b' = b
      · right
        subst e
        obtain ⟨q1, q2, q3, q4, q5⟩ := hS.objn k b' hb'
        exact ⟨q1, by simp [Gh.tag, Ne.symm hb2, q2], q3, q4, q5⟩
      · have hb'' : g.obj k = some b' := hb'
        obtain ⟨q1, q2, _⟩ := hS.objn k b' hb''
        exact .inl ⟨hb'', fun h => h.elim e (fun h => by rw [h, e7] at q2; cases q2)⟩
    · intro x hx h
      rcases hx with rfl | rfl
      · rcases h with h | h
        · exact absurd o4 h
        · simp [Gh.tag, Ne.symm hb2, o2, Tag.held] at h
      · obtain ⟨d, el, fr, q1, q2, q3, q4⟩ := hS.st x (.inr (by rw [e7]; rfl))
        exact ⟨d, el, fr, q1, q2, q3, fun _ => q4 (by rw [e7]; rfl)⟩
    · intro x hx ks us h
      exact hS.mst x ks us h
    · intro x hx h
      rcases hx with rfl | rfl
      · omega
      · obtain ⟨e1, _⟩ := hS.fresh x h
        rw [e7] at e1
        cases e1
  · exact hfix x (fun e => by rw [e, e7] at hx; cases hx)
  · exact ⟨b2, base, cap, vs, e1, e2, (e3.mono (tag_le _ _ _) (by omega)), e4, e5, e6, by simp [Gh.tag]⟩

theorem base_sound {x : Opd} {y : Operand} {cs : List AVal} {k size : Nat} {s1 : ASt} (hS : Sim fm s g w) (hF : FrameRep fm g s.n nt A a.tmps) (hok : okOpd fm x y = true)
    (h : base size A s x = some (cs, k, A1, s1)) : s1.n = s.n ∧ ∃ g1, Sim fm s1 g1 w ∧ le s.n g g1 ∧ Kept g g1 w w ∧ FrameRep fm g1 s.n nt A1 a.tmps ∧
      ((a.eval y = .slice none 0 0 ∧ cs = [] ∧ k = 0) ∨ Rep fm g1 s.n (.sl cs k .exact) (a.eval y) ∨ SlotRep fm g1 s.n .res (.sl cs k (.mine size)) (a.eval y)) := by
  cases x with
  | fn i => simp [base] at h
  | val v =>
    cases v <;> simp [base] at h
    obtain ⟨rfl, rfl, rfl, rfl⟩ := h
    cases y <;> simp [okOpd] at hok
    have := litOk_rep fm g s.n hok
    rename_i cv
    refine ⟨rfl, g, hS, le.refl _ _, Kept.refl _ _, hF, .inl ⟨?_, rfl, rfl⟩⟩
    show cv = _
    cases this
    rfl
  | tmp d =>
    cases y <;> simp [okOpd] at hok
    subst hok
    simp only [base] at h
    have hev : ∀ cv, a.tmps[d]? = some cv → a.eval (.tmp d) = cv := fun cv h1 => by
      have hlt : d < a.tmps.size := (Array.getElem?_eq_some_iff.1 h1).1
      simp [Act.eval, Array.getD, hlt, (Array.getElem?_eq_some_iff.1 h1).2]
    split at h
    · rename_i hg
      cases h
      obtain ⟨cv, h1, h2⟩ := hF.2 d (by rw [hg]; simp)
      rw [hg] at h2
      refine ⟨rfl, g, hS, le.refl _ _, Kept.refl _ _, hF, .inl ⟨?_, rfl, rfl⟩⟩
      rw [hev cv h1]
      cases h2
      rfl
    · rename_i ds m hg
      cases h
      obtain ⟨cv, h1, h2⟩ := hF.2 d (by rw [hg]; simp)
      rw [hg] at h2
      exact ⟨rfl, g, hS, le.refl _ _, Kept.refl _ _, hF, .inr (.inl (by rw [hev cv h1]; exact h2))⟩
    · rename_i ds m z hg
      split at h
      · rename_i hz
        subst hz
        cases h
        obtain ⟨g1, q1, q2, q3, q4, q5, _⟩ := taken_sound (x := .tmp d) (y := .tmp d) (v := .sl cs k (.mine z)) (A' := A.put d (.sl cs k .none)) hS hF (by simp [okOpd]) (by simp [Opd.taken, hg])
        exact ⟨rfl, g1, q1, q2, q3, q4, .inr (.inr q5)⟩
      · cases h
    · rename_i ds m r c hg
      split at h
      · rename_i os hr
        split at h
        · rename_i es m' z hc
          split at h
          · rename_i hz
            obtain ⟨hl, rfl⟩ := hz
            cases h
            obtain ⟨cv, h1, h2⟩ := hF.2 d (by rw [hg]; simp)
            rw [hg] at h2
            obtain ⟨f1, f2, ⟨b, hob⟩, hd, kk, f3, f4, f5⟩ := h2
            -- the object lies in memory, for the mark speaks of a cell of it
            have hrlt := ASt.get_lt hr
            obtain ⟨ca, el, hw, hsz, hcells⟩ := hS.objs r _ hr b hob
            obtain ⟨v, hv, hcr⟩ := hcells c _ hc
            have hvec : g.vec r c = some (v, es.length) := by
              obtain ⟨_, _, _, _, _, _, _, _, _, _, _, e8⟩ := hcr
              exact e8
            rw [hvec] at f3
            cases f3
            have hcv := f5 (by omega)
            subst hcv
            obtain ⟨g1, q1, q2, q3, q4, q5⟩ := move_out hS hF hr hc hob ⟨ca, el, hw, hv⟩
            refine ⟨rfl, g1, q1, q2, q3, q4, .inr (.inr ?_)⟩
            rw [hev cv h1]
            -- the abstract cells are those of the copy
            obtain ⟨b2, base2, cap, vs, e1, e2, e3, e4, e5, e6, e7⟩ := q5
            have h3 := f1.mono q2 (Nat.le_refl _)
            cases h3 with
            | sl0 ad cap3 =>
              cases e1
              exact ⟨b2, base2, cap, [], rfl, Nat.zero_le _, .nil, List.nil_prefix, by simp only [List.length_nil] at *; omega, e6, e7⟩
            | sl _ _ _ b3 base3 cap3 vs3 ho hc3 hR3 hp3 =>
            cases e1
            exact ⟨b2, base2, cap, vs3, rfl, hc3, hR3, hp3, by omega, e6, e7⟩
          · cases h
        · cases h
      · cases h
    · cases h

end
end Go.Proofs.YtdhgdpokdhjanaaGreat.Abs
