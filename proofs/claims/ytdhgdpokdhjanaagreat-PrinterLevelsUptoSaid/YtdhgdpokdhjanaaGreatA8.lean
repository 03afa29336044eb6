/- All operations that only compute. -/
import Derived.Test.YtdhgdpokdhjanaaGreatA7
set_option linter.unusedSimpArgs false
set_option linter.unusedVariables false
namespace Go.Proofs.YtdhgdpokdhjanaaGreat.Abs
open Go

section
variable {P : Program} {fm : Nat → Nat} {g : Gh} {s : ASt} {n nt : Nat} {A : Frame} {a : Act} {w : World}

theorem zero_run {t : Nat} {cs : List AVal} (h : zeroOk P t cs = true) : ∃ z, (zeroValue t).run P w = .ok z w ∧ litOkL cs z.cells.toList = true := by
  unfold zeroOk at h
  split at h
  · rename_i i hi
    split at h
    · rename_i z hz
      exact ⟨z, by simp [zeroValue, run_typeInfo hi, hz], h⟩
    · cases h
  · cases h

theorem run_mapM {α β : Type} (f : α → Sem β) (r : α → Option β) (w : World) : ∀ (l : List α), (∀ x ∈ l, ∃ y, r x = some y ∧ (f x).run P w = .ok y w) →
    ∃ ys, (l.mapM f).run P w = .ok ys w ∧ l.map r = ys.map some
  | [], _ => ⟨[], by simp, rfl⟩
  | x :: l, h => by
    obtain ⟨y, hy, hr⟩ := h x (by simp)
    obtain ⟨ys, h1, h2⟩ := run_mapM f r w l (fun z hz => h z (by simp [hz]))
    exact ⟨y :: ys, by simp [List.mapM_cons, hr, h1], by simp [hy, h2]⟩

theorem build_run {t : Nat} {zero r : List AVal} {parts : List (Nat × Nat × Opd)} {ps : Array (Nat × Operand)} {fs : Array Field} (hF : FrameRep fm g n nt A a.tmps)
    (hu : P.underlying t = some (.struct fs)) (hz : zeroOk P t zero = true) (hp : partsOk fm (fieldAt P fs) parts ps.toList = true) (ha : (fs.all fun f => (P.info? f.type).isSome) = true)
    (h : fill zero (parts.map fun (i, k, x) => (i, k, x.ev A)) = some r) :
    ∃ cv, (Instr.build t (ps.map fun (i, x) => (i, a.eval x))).run P w = .ok cv w ∧ Rep fm g n (.agg r) cv := by
  obtain ⟨z, hzr, hzl⟩ := zero_run (P := P) (w := w) hz
  obtain ⟨us, h1, h2, _⟩ := fill_run hF (vs := z.cells) hp (litOkL_rep fm g n hzl) h
  have hm : ∃ ys : Array (Nat × Nat), (fs.mapM (fun f => (do pure (f.offset, ← sizeOf f.type) : Sem (Nat × Nat)))).run P w = .ok ys w ∧ ∀ i, ys[i]? = fieldAt P fs i := by
    obtain ⟨ys, hy1, hy2⟩ := run_mapM (P := P) (fun f : Field => (do pure (f.offset, ← sizeOf f.type) : Sem (Nat × Nat))) (fun f => (P.info? f.type).map fun j => (f.offset, j.size)) w fs.toList (by
      intro f hf
      have := Array.all_eq_true_iff_forall_mem.1 ha f (by simpa using hf)
      obtain ⟨j, hj⟩ := Option.isSome_iff_exists.1 this
      exact ⟨(f.offset, j.size), by simp [hj], by simp [sizeOf, run_typeInfo hj]⟩)
    refine ⟨ys.toArray, ?_, ?_⟩
    · rw [Array.mapM_eq_mapM_toList]
      simp only [Sem.run_map, hy1, Result.andThen_ok]
    · intro i
      have := congrArg (·[i]?) hy2
      simp only [List.getElem?_map, Array.getElem?_toList] at this
      unfold fieldAt
      simp only [List.getElem?_toArray]
      cases hfi : fs[i]? <;> cases hyi : ys[i]? <;> simp only [hfi, hyi, Option.map_none, Option.map_some, Option.some.injEq, reduceCtorEq] at this
      · rfl
      · exact this.symm
  obtain ⟨ys, hy1, hy2⟩ := hm
  refine ⟨.agg us, ?_, ?_⟩
  · have e : (fun i => ys[i]?) = fieldAt P fs := funext hy2
    simp only [Instr.build, Sem.run_bind, hzr, Result.andThen_ok, run_underlying hu, hy1]
    have e2 : ((ps.map fun (i, x) => (i, a.eval x)).toList) = ps.toList.map fun (i, x) => (i, a.eval x) := by simp
    rw [e, e2, h1]
    simp
  · have := Rep.agg (fm := fm) (g := g) (n := n) r us.toList h2
    simpa using this

theorem un_run {op : UnOp} {t : Nat} {x v : AVal} {cx : Value} (hx : Rep fm g n x cx) (h : aun op x = some v) : ∃ cv, (Op.unary op cx).run P w = .ok cv w ∧ Rep fm g n v cv := by
  cases op <;> cases x <;> simp only [aun] at h <;> try (cases h; done)
  · cases h
    rw [hx.int_inv]
    exact ⟨_, by simp [Op.unary, Op.intArith], .int _ _⟩
  · cases h
    rw [hx.bool_inv]
    exact ⟨_, by simp [Op.unary], .bool _⟩

theorem conv_run {k : Cv} {t u : Nat} {x v : AVal} {cx : Value} (hx : Rep fm g n x cx) (hk : k = .same ∨ ∃ j, k = .int j) (ho : convOk P t u k = true) (h : aconv k x = some v) :
    ∃ cv, (convert t u cx).run P w = .ok cv w ∧ Rep fm g n v cv := by
  rcases hk with rfl | ⟨j, rfl⟩
  · cases x <;> simp only [aconv] at h <;> try (cases h; done)
    cases h
    rw [hx.str_inv]
    simp only [convOk] at ho
    split at ho
    · rename_i d h1 h2
      refine ⟨.string ⟨_⟩, ?_, .str _⟩
      simp only [convert, Sem.run_bind, run_underlying h1, run_underlying h2, Result.andThen_ok]
      cases d <;> simp
    · cases ho
  · cases x <;> simp only [aconv] at h <;> try (cases h; done)
    cases h
    rw [hx.int_inv]
    simp only [convOk] at ho
    split at ho
    · rename_i d jj h1 h2
      have hj : j = jj := by simpa using ho
      subst hj
      refine ⟨.int _ _, ?_, .int _ _⟩
      simp only [convert, Sem.run_bind, run_underlying h1, run_underlying h2, Result.andThen_ok]
      simp [Conv.intToInt]
    · cases ho

theorem asIntOf_run (k : IntKind) (i : Int) : (asIntOf (.int k i)).run P w = .ok (k, i) w := by simp [asIntOf]

theorem natOf_some {x : AVal} {k : Nat} (h : natOf x = some k) : ∃ j i, x = .int j i ∧ 0 ≤ i ∧ i.toNat = k := by
  cases x <;> simp only [natOf] at h <;> try (cases h; done)
  split at h
  · cases h; exact ⟨_, _, rfl, by assumption, rfl⟩
  · cases h

/-- A bound that is given, or not. -/
theorem bound_run {x : Option Opd} {y : Option Operand} {d k : Nat} (hF : FrameRep fm g n nt A a.tmps) (hok : okOpdO fm x y = true) (h : bound d (x.map (·.ev A)) = some k) :
    (y = none ∧ k = d) ∨ ∃ o j i, y = some o ∧ a.eval o = .int j i ∧ 0 ≤ i ∧ i.toNat = k := by
  cases x <;> cases y <;> simp [okOpdO] at hok
  · simp [bound] at h; exact .inl ⟨rfl, h.symm⟩
  · simp only [Option.map_some, bound] at h
    obtain ⟨j, i, e, h0, h1⟩ := natOf_some h
    have := okOpd_rep hF hok
    rw [e] at this
    exact .inr ⟨_, j, i, rfl, this.int_inv, h0, h1⟩

theorem sliceBound_run {k : IntKind} {i : Int} {y : Nat} {code : BoundsCode} (h0 : 0 ≤ i) (h1 : i.toNat ≤ y) : (Instr.sliceBound (.int k i) y code).run P w = .ok i.toNat w :=
  run_sliceBound w k i y code h0 (by omega)

theorem sliceBounds_run {isSlice : Bool} {len cap lo hi : Nat} {l h : Option Operand} (hl : (l = none ∧ lo = 0) ∨ ∃ o j i, l = some o ∧ a.eval o = .int j i ∧ 0 ≤ i ∧ i.toNat = lo)
    (hh : (h = none ∧ hi = len) ∨ ∃ o j i, h = some o ∧ a.eval o = .int j i ∧ 0 ≤ i ∧ i.toNat = hi) (h1 : lo ≤ hi) (h2 : hi ≤ cap) :
    (Instr.sliceBounds isSlice len cap (l.map a.eval) (h.map a.eval) none).run P w = .ok (lo, hi, cap) w := by
  rcases hl with ⟨rfl, rfl⟩ | ⟨o, j, i, rfl, e1, h0, rfl⟩ <;> rcases hh with ⟨rfl, rfl⟩ | ⟨o', j', i', rfl, e2, h0', rfl⟩
  · simp [Instr.sliceBounds]
  · simp [Instr.sliceBounds, e2, sliceBound_run h0' h2]
  · simp [Instr.sliceBounds, e1, sliceBound_run h0 h1]
  · simp [Instr.sliceBounds, e1, e2, sliceBound_run h0' h2, sliceBound_run h0 h1]

theorem take_drop_pre {α : Type} {vs l : List α} {k i j : Nat} (hp : vs <+: l.drop k) : (vs.take j).drop i <+: l.drop (k + i) := by
  obtain ⟨t, ht⟩ := hp
  have : l.drop (k + i) = (l.drop k).drop i := by simp
  rw [this, ← ht]
  by_cases hi : i ≤ vs.length
  · rw [List.drop_append_of_le_length hi]
    refine List.IsPrefix.trans ?_ (List.prefix_append _ _)
    rw [List.drop_take]
    exact List.take_prefix _ _
  · rw [List.drop_of_length_le (by simp; omega)]
    exact List.nil_prefix

theorem slice_run {str : Bool} {size t : Nat} {x v : AVal} {cx : Value} {lo hi : Option Opd} {l h : Option Operand} (hF : FrameRep fm g n nt A a.tmps) (hx : Rep fm g n x cx)
    (hl : okOpdO fm lo l = true) (hh : okOpdO fm hi h = true) (ht : (match P.underlying t with | some .string => str | some (.slice e) => !str && sizeIs P e size | _ => false) = true)
    (hv : aslice str size x (lo.map (·.ev A)) (hi.map (·.ev A)) = some v) : ∃ cv, (Instr.sliceAt t cx (l.map a.eval) (h.map a.eval) none).run P w = .ok cv w ∧ Rep fm g n v cv := by
  cases str with
  | true =>
    have hu : P.underlying t = some .string := by
      split at ht
      · assumption
      · simp at ht
      · cases ht
    cases x <;> simp only [aslice] at hv <;> try (cases hv; done)
    rename_i cs
    obtain ⟨h', hb1, hv⟩ := bind_some' hv
    obtain ⟨o', hb2, hv⟩ := bind_some' hv
    split at hv
    · rename_i hc
      cases hv
      rw [hx.str_inv]
      have hsz : (ByteArray.mk cs.toArray).size = cs.length := by simp [ByteArray.size]
      have hb := sliceBounds_run (P := P) (w := w) (isSlice := false) (len := cs.length) (cap := cs.length) (bound_run hF hl hb2) (bound_run hF hh hb1) hc.1 hc.2
      refine ⟨.string ⟨((cs.take h').drop o').toArray⟩, ?_, .str _⟩
      simp only [Instr.sliceAt, Sem.run_bind, run_underlying hu, Result.andThen_ok, Instr.slice, hsz, hb, Sem.run_pure, Option.isSome_none, Bool.false_eq_true, if_false]
      congr 2
      apply ByteArray.ext
      simp [ByteArray.data_extract, List.drop_take]
    · cases hv
  | false =>
    have hu : ∃ e, P.underlying t = some (.slice e) ∧ sizeIs P e size = true := by
      split at ht
      · cases ht
      · exact ⟨_, by assumption, by simpa using ht⟩
      · cases ht
    obtain ⟨e, hu, hz⟩ := hu
    cases x <;> simp only [aslice] at hv <;> try (cases hv; done)
    case nils =>
      obtain ⟨h', hb1, hv2⟩ := bind_some' hv
      clear hv
      obtain ⟨o', hb2, hv3⟩ := bind_some' hv2
      clear hv2
      split at hv3
      · rename_i hc
        obtain ⟨rfl, rfl⟩ := hc
        have hv4 := Option.some.inj hv3
        subst hv4
        cases hx
        have hb := sliceBounds_run (P := P) (w := w) (isSlice := true) (len := 0) (cap := 0) (bound_run hF hl hb2) (bound_run hF hh hb1) (Nat.le_refl _) (Nat.le_refl _)
        refine ⟨.slice none 0 0, ?_, .nils⟩
        simp only [Instr.sliceAt, Sem.run_bind, run_underlying hu, Result.andThen_ok, Instr.slice, hb, run_sizeOf hz, Sem.run_pure, if_true, Nat.sub_zero]
      · cases hv3
    case sl cs len o =>
      obtain ⟨h', hb1, hv⟩ := bind_some' hv
      obtain ⟨o', hb2, hv⟩ := bind_some' hv
      split at hv
      · rename_i hc
        cases hv
        cases hx with
        | sl0 ad cap =>
          have hb := sliceBounds_run (P := P) (w := w) (isSlice := true) (len := 0) (cap := cap) (bound_run hF hl hb2) (bound_run hF hh hb1) hc.1 (by omega)
          have h0 : h' = 0 := by omega
          have o0 : o' = 0 := by omega
          subst h0
          subst o0
          simp only [Instr.sliceAt, Sem.run_bind, run_underlying hu, Result.andThen_ok, Instr.slice, hb, run_sizeOf hz, Sem.run_pure]
          refine ⟨_, rfl, ?_⟩
          have e1 : (([] : List AVal).take (0 * size)).drop (0 * size) = [] := by simp
          have e2 : (if True ∧ Own.none = Own.exact then Own.exact else Own.none) = Own.none := by simp
          rw [e1, e2]
          split
          · exact .sl0 _ _
          · exact .sl0 _ _
        | sl _ _ _ b base cap vs ho hcap hR hp =>
        have hb := sliceBounds_run (P := P) (w := w) (isSlice := true) (len := len) (cap := cap) (bound_run hF hl hb2) (bound_run hF hh hb1) hc.1 (by omega)
        have hb' : base + o' * size = base + o' * size := rfl
        simp only [Instr.sliceAt, Sem.run_bind, run_underlying hu, Result.andThen_ok, Instr.slice, hb, run_sizeOf hz, Sem.run_pure]
        refine ⟨_, rfl, ?_⟩
        have hown : (if h' = len ∧ o = Own.exact then Own.exact else Own.none) = .none ∨ ((if h' = len ∧ o = Own.exact then Own.exact else Own.none) = .exact ∧ cap - o' = h' - o') := by
          split
          · rename_i hh
            obtain ⟨hh1, hh2⟩ := hh
            rcases ho with ho | ⟨_, hcl⟩
            · rw [hh2] at ho; cases ho
            · exact .inr ⟨rfl, by omega⟩
          · exact .inl rfl
        generalize (if h' = len ∧ o = Own.exact then Own.exact else Own.none) = own' at hown ⊢
        have hR' := (hR.take (h' * size)).drop (o' * size)
        by_cases hco : cap = o'
        · have he : (cs.take (h' * size)).drop (o' * size) = [] := by
            apply List.drop_of_length_le
            have : h' = o' := by omega
            subst this
            simp
            omega
          rw [he] at hR' ⊢
          rw [if_pos hco]
          exact .sl _ _ _ b base _ [] hown (by omega) .nil List.nil_prefix
        · rw [if_neg hco]
          simp only [Option.map_some, add_mk]
          exact .sl _ _ _ b _ _ _ hown (by omega) hR' (take_drop_pre hp)
      · cases hv

theorem makeFn_args {xs : List Opd} {ys : Array Operand} (hF : FrameRep fm g n nt A a.tmps) (h : okOpds fm xs ys.toList = true) : RepL fm g n (xs.map (·.ev A)) (ys.map a.eval).toList := by
  simpa using okOpds_rep hF h

end
end Go.Proofs.YtdhgdpokdhjanaaGreat.Abs
