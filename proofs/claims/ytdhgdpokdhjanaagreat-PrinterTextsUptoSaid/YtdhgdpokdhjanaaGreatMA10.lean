/- All operations that only compute, in one theorem. -/
import Derived.Test.YtdhgdpokdhjanaaGreatMA1
import Derived.Laws.AppendOwn
import Derived.Lib.ConvBytes
set_option linter.unusedSimpArgs false
set_option linter.unusedVariables false
namespace Go.Proofs.YtdhgdpokdhjanaaGreat.Abs
open Go

def AOp.isPure : AOp → Bool
  | .mov _ | .pick _ _ _ | .build _ _ | .load _ _ _ | .bin _ _ _ _ | .un _ _ | .fieldAddr _ _ | .field _ _ _ _ | .indexAddr _ _ _ | .index _ _ | .slice _ _ _ _ _ | .lookup _ _ _ _ _
  | .extract _ _ | .nilCheck _ | .makeFunc _ _ _ | .len _ _ | .minmax _ _ _ => true
  | .conv (.int _) _ | .conv .same _ => true
  | _ => false

section
variable {P : Program} {fm : Nat → Nat} {g : Gh} {s : ASt} {n nt : Nat} {A A' : Frame} {a : Act} {w : World}

theorem run_v {x : Sem Value} {cv : Value} (h : x.run P w = .ok cv w) : (do pure (Next.value (← x)) : Sem Next).run P w = .ok (.value cv) w := by
  simp only [Sem.run_bind, h, Result.andThen_ok, Sem.run_pure]

theorem pure_sound {call : CallFn} {ao : AOp} {o : Oper} {v : AVal} {s' : ASt} (hF : FrameRep fm g s.n nt A a.tmps) (hS : Sim fm s g w) (hok : okOp P fm ao o.op = true) (hp : ao.isPure = true)
    (h : aop call ao A s = some (v, A', s')) : A' = A ∧ s' = s ∧ ∃ cv, (execOp a.eval o).run P w = .ok (.value cv) w ∧ SlotRep fm g s.n .res v cv := by
  obtain ⟨dst, op, ty, pos, after, gd⟩ := o
  simp only at hok
  cases ao <;> simp only [AOp.isPure, Bool.false_eq_true] at hp <;> simp only [aop] at h
  case mov x =>
    cases h
    refine ⟨rfl, rfl, ?_⟩
    cases op <;> simp only [okOp, Bool.false_eq_true] at hok
    · exact ⟨_, rfl, (okOpd_rep hF hok).slot⟩
    · exact ⟨_, rfl, (okOpd_rep hF hok).slot⟩
  case pick c x y =>
    cases op <;> simp only [okOp, Bool.false_eq_true, Bool.and_eq_true] at hok
    obtain ⟨⟨h1, h2⟩, h3⟩ := hok
    have r1 := okOpd_rep hF h1
    split at h
    · rename_i e
      cases h
      rw [e] at r1
      exact ⟨rfl, rfl, _, by simp [execOp, r1.bool_inv, asBool], (okOpd_rep hF h2).slot⟩
    · rename_i e
      cases h
      rw [e] at r1
      exact ⟨rfl, rfl, _, by simp [execOp, r1.bool_inv, asBool], (okOpd_rep hF h3).slot⟩
    · cases h
  case build zero parts =>
    cases op <;> simp only [okOp, Bool.false_eq_true] at hok
    obtain ⟨r, hr, h⟩ := bind_some' h
    cases h
    split at hok
    · rename_i fs hu
      simp only [Bool.and_eq_true] at hok
      obtain ⟨cv, h1, h2⟩ := build_run (w := w) hF hu hok.1.1 hok.1.2 hok.2 hr
      exact ⟨rfl, rfl, cv, run_v h1, h2.slot⟩
    · cases hok
  case load k agg x =>
    cases op <;> simp only [okOp, Bool.false_eq_true, Bool.and_eq_true] at hok
    obtain ⟨r, hr, h⟩ := bind_some' h
    cases h
    obtain ⟨cv, h1, h2⟩ := load_run (tg := .res) hS (okOpd_rep hF hok.1.1) hok.1.2 hok.2 hr
    exact ⟨rfl, rfl, cv, run_v h1, h2⟩
  case bin bop ty x y =>
    cases op <;> simp only [okOp, Bool.false_eq_true, Bool.and_eq_true, beq_iff_eq] at hok
    obtain ⟨r, hr, h⟩ := bind_some' h
    cases h
    obtain ⟨⟨⟨rfl, ht⟩, hx⟩, hy⟩ := hok
    obtain ⟨cv, h1, h2⟩ := bin_run (P := P) (w := w) (okOpd_rep hF hx) (okOpd_rep hF hy) ht hr
    exact ⟨rfl, rfl, cv, run_v h1, h2.slot⟩
  case un uop x =>
    cases op <;> simp only [okOp, Bool.false_eq_true, Bool.and_eq_true, beq_iff_eq] at hok
    obtain ⟨r, hr, h⟩ := bind_some' h
    cases h
    obtain ⟨rfl, hx⟩ := hok
    obtain ⟨cv, h1, h2⟩ := un_run (t := 0) (P := P) (w := w) (okOpd_rep hF hx) hr
    exact ⟨rfl, rfl, cv, run_v h1, h2.slot⟩
  case conv k x =>
    cases op <;> simp only [okOp, Bool.false_eq_true, Bool.and_eq_true, beq_iff_eq] at hok
    obtain ⟨r, hr, h⟩ := bind_some' h
    cases h
    obtain ⟨hc, hx⟩ := hok
    have hk : k = .same ∨ ∃ j, k = .int j := by
      cases k
      case int j => exact .inr ⟨j, rfl⟩
      case same => exact .inl rfl
      all_goals simp [AOp.isPure] at hp
    obtain ⟨cv, h1, h2⟩ := conv_run (P := P) (w := w) (okOpd_rep hF hx) hk hc hr
    exact ⟨rfl, rfl, cv, run_v h1, h2.slot⟩
  case fieldAddr off x =>
    cases op <;> simp only [okOp, Bool.false_eq_true, Bool.and_eq_true] at hok
    rename_i t y i
    obtain ⟨hx, hf⟩ := hok
    have hr := okOpd_rep hF hx
    split at hf
    · rename_i fs hu
      split at hf
      · rename_i f hfi
        simp only [Bool.and_eq_true, beq_iff_eq] at hf
        obtain ⟨rfl, hj⟩ := hf
        split at hj
        · rename_i j hji
          have hj0 : j.size ≠ 0 := by simpa using hj
          have key : ∀ ad : Addr, a.eval y = .pointer (some ad) → (execOp a.eval { dst := dst, op := .fieldAddr t y i, type := ty, pos := pos, after := after, guard := gd }).run P w = .ok (.value (.pointer (some (ad.add f.offset)))) w := by
            intro ad he
            apply run_v
            simp only [Instr.fieldAt, Sem.run_bind, run_underlying hu, Result.andThen_ok, hfi, he, Instr.sureAddr, Sem.run_pure, fieldPlace, sizeOf, run_typeInfo hji, if_neg hj0]
          cases hxa : x.ev A <;> rw [hxa] at h hr <;> simp only at h <;> try (cases h; done)
          case ref r o =>
            cases h
            generalize hv : a.eval y = cx at hr
            cases hr with
            | ref _ _ b hlt hb => exact ⟨rfl, rfl, _, key _ hv, by rw [add_mk]; exact .ref _ _ _ hlt hb⟩
          case ipt cs o =>
            cases h
            generalize hv : a.eval y = cx at hr
            cases hr with
            | ipt _ _ b base vs hR hpp => exact ⟨rfl, rfl, _, key _ hv, by rw [add_mk, Nat.add_assoc]; exact .ipt _ _ _ _ _ hR hpp⟩
        · cases hj
      · cases hf
    · cases hf
  case field off k agg x =>
    cases op <;> simp only [okOp, Bool.false_eq_true, Bool.and_eq_true] at hok
    rename_i t y i
    obtain ⟨hx, hf⟩ := hok
    have hr := okOpd_rep hF hx
    split at hf
    · rename_i fs hu
      split at hf
      · rename_i f hfi
        simp only [Bool.and_eq_true, beq_iff_eq] at hf
        obtain ⟨⟨rfl, ha⟩, hz⟩ := hf
        split at h
        · rename_i cs he
          rw [he] at hr
          obtain ⟨l, hl, h⟩ := bind_some' h
          obtain ⟨u, hu2, h⟩ := bind_some' h
          cases h
          generalize hv : a.eval y = cx at hr
          cases hr with
          | agg _ vs hcs =>
          obtain ⟨cv, h1, h2⟩ := part_run (P := P) (w := w) (off := f.offset) hcs ha hz (by rw [hl]; exact hu2)
          refine ⟨rfl, rfl, cv, run_v ?_, h2.slot⟩
          simp only [Instr.field, Sem.run_bind, run_underlying hu, Result.andThen_ok, hfi, hv, asAgg, Sem.run_pure, h1]
        · cases h
      · cases hf
    · cases hf
  case indexAddr size x i =>
    cases op <;> simp only [okOp, Bool.false_eq_true, Bool.and_eq_true] at hok
    rename_i t y j
    obtain ⟨⟨hx, hi⟩, hu⟩ := hok
    have hr := okOpd_rep hF hx
    have hri := okOpd_rep hF hi
    split at hu
    · rename_i e hut
      have hz := hu
      split at h
      · rename_i cs len ow kk ii e1 e2
        rw [e1] at hr
        rw [e2] at hri
        split at h
        · rename_i hb
          cases h
          generalize hv : a.eval y = cx at hr
          cases hr with
          | sl0 ad cap => omega
          | sl _ _ _ b base cap vs ho hc hR hpp =>
          refine ⟨rfl, rfl, .pointer (some ⟨b, base + ii.toNat * size, none⟩), run_v ?_, .ipt _ _ _ _ _ hR hpp⟩
          simp only [Instr.indexAt, Sem.run_bind, hri.int_inv, asIntOf_run, Result.andThen_ok, run_underlying hut, hv, Sem.run_pure]
          rw [if_pos (by exact ⟨hb.1, by exact_mod_cast hb.2⟩)]
          simp only [Sem.run_bind, run_sizeOf hz, Result.andThen_ok, Sem.run_pure, add_mk]
        · cases h
      · cases h
    · cases hu
  case index x i =>
    cases op <;> simp only [okOp, Bool.false_eq_true, Bool.and_eq_true] at hok
    rename_i t y j
    obtain ⟨⟨hx, hi⟩, hu⟩ := hok
    have hr := okOpd_rep hF hx
    have hri := okOpd_rep hF hi
    split at hu
    · rename_i hut
      split at h
      · rename_i l kk ii e1 e2
        rw [e1] at hr
        rw [e2] at hri
        split at h
        · rename_i hb
          obtain ⟨b, hbb, h⟩ := bind_some' h
          cases h
          refine ⟨rfl, rfl, .int .u8 b.toNat, run_v ?_, .int _ _⟩
          have hget : (ByteArray.mk l.toArray)[ii.toNat]? = some b := by
            obtain ⟨h1, h2⟩ := List.getElem?_eq_some_iff.1 hbb
            have hs : ii.toNat < (ByteArray.mk l.toArray).size := by simpa [ByteArray.size] using h1
            rw [getElem?_pos (ByteArray.mk l.toArray) ii.toNat hs]
            exact congrArg some h2
          simp only [Instr.index, Sem.run_bind, hri.int_inv, asIntOf_run, Result.andThen_ok, run_underlying hut, hr.str_inv, if_pos hb, hget, Sem.run_pure]
        · cases h
      · cases h
    · cases hu
  case slice str size x lo hi =>
    cases op with
    | slice t y lo' hi' mx =>
      cases mx <;> simp only [okOp, Bool.false_eq_true, Bool.and_eq_true] at hok
      obtain ⟨⟨⟨hx, hl⟩, hh⟩, ht⟩ := hok
      obtain ⟨r, hr, h⟩ := bind_some' h
      cases h
      obtain ⟨cv, h1, h2⟩ := slice_run (P := P) (w := w) hF (okOpd_rep hF hx) hl hh ht hr
      exact ⟨rfl, rfl, cv, run_v h1, h2.slot⟩
    | _ => simp [okOp] at hok
  case lookup kt zero ok m k =>
    cases op <;> simp only [okOp, Bool.false_eq_true, Bool.and_eq_true, beq_iff_eq] at hok
    obtain ⟨⟨⟨⟨rfl, hkt⟩, hm⟩, hk⟩, hz⟩ := hok
    obtain ⟨⟨ks, vs⟩, he, h⟩ := bind_some' h
    obtain ⟨r, hr, h⟩ := bind_some' h
    cases h
    obtain ⟨cv, h1, h2⟩ := lookup_run hS (okOpd_rep hF hm) (okOpd_rep hF hk) hkt hz he hr
    exact ⟨rfl, rfl, cv, run_v h1, h2.slot⟩
  case extract x i =>
    cases op <;> simp only [okOp, Bool.false_eq_true, Bool.and_eq_true, beq_iff_eq] at hok
    rename_i y j
    obtain ⟨hx, rfl⟩ := hok
    have hr := okOpd_rep hF hx
    split at h
    · rename_i vs e
      rw [e] at hr
      obtain ⟨u, hu, h⟩ := bind_some' h
      cases h
      generalize hv : a.eval y = cx at hr
      cases hr with
      | tup _ cvs hR =>
      obtain ⟨cv, h1, h2⟩ := hR.get i _ hu
      refine ⟨rfl, rfl, cv, run_v ?_, h2.slot⟩
      simp only [Instr.extract, hv]
      simp [h1]
    · cases h
  case nilCheck x =>
    cases op <;> simp only [okOp, Bool.false_eq_true] at hok
    rename_i y
    have hr := okOpd_rep hF hok
    cases hxa : x.ev A <;> rw [hxa] at h hr <;> simp only at h <;> try (cases h; done)
    all_goals
      cases h
      generalize hv : a.eval y = cx at hr
      cases hr
      all_goals
        refine ⟨rfl, rfl, _, by simp only [execOp, hv]; rfl, ?_⟩
        constructor <;> assumption
  case makeFunc f first captured =>
    cases op with
    | makeFunc fn first' captured' =>
      cases fn with
      | func k =>
        simp only [okOp, Bool.and_eq_true, beq_iff_eq] at hok
        cases h
        obtain ⟨⟨⟨rfl, h1⟩, h2⟩, h3⟩ := hok
        refine ⟨rfl, rfl, _, run_v (by simp [Instr.makeFunc]; rfl), ?_⟩
        have := Rep.fn (fm := fm) (g := g) (n := s.n) f _ _ _ _ (makeFn_args hF h1) (makeFn_args hF h2) (of_decide_eq_true h3)
        simp only [Array.toArray_toList] at this
        exact this
      | _ => simp [okOp] at hok
    | _ => simp [okOp] at hok
  case len str x =>
    cases op with
    | call c =>
      obtain ⟨callee, args', ts⟩ := c
      cases callee with
      | builtin b =>
        cases b with
        | len =>
          simp only [okOp] at hok
          split at hok
          · rename_i y t e1 e2
            simp only [Bool.and_eq_true] at hok
            obtain ⟨hx, ht⟩ := hok
            have hr := okOpd_rep hF hx
            have ea : args' = #[y] := by apply Array.ext'; simpa using e1
            have et : ts = #[t] := by apply Array.ext'; simpa using e2
            subst ea
            subst et
            have key : ∀ k, (Builtin.len_ #[t] ty #[a.eval y]).run P w = .ok (goInt k) w →
                (execOp a.eval { dst := dst, op := .call { callee := .builtin .len, args := #[y], argTypes := #[t] }, type := ty, pos := pos, after := after, guard := gd }).run P w = .ok (.value (.int .i64 k)) w := by
              intro k hk
              simp only [execOp, resolve, Sem.run_bind, Sem.run_pure, Result.andThen_ok, invoke, builtin]
              simp only [List.map_toArray, List.map_cons, List.map_nil, hk, Sem.run_bind, Result.andThen_ok, Sem.run_pure]
              rfl
            cases str with
            | true =>
              have hu : P.underlying t = some .string := by
                split at ht
                · assumption
                · cases ht
                · cases ht
              cases hxa : x.ev A <;> rw [hxa] at h hr <;> simp only at h <;> try (cases h; done)
              cases h
              rename_i l
              refine ⟨rfl, rfl, _, key l.length ?_, .int _ _⟩
              rw [hr.str_inv]
              have hs : (ByteArray.mk l.toArray).size = l.length := by simp [ByteArray.size]
              simp [Builtin.len_, run_underlying hu, hs]
            | false =>
              have hu : ∃ e, P.underlying t = some (.slice e) := by
                split at ht
                · cases ht
                · exact ⟨_, by assumption⟩
                · cases ht
              obtain ⟨e, hu⟩ := hu
              cases hxa : x.ev A <;> rw [hxa] at h hr <;> simp only at h <;> try (cases h; done)
              case nils =>
                cases h
                refine ⟨rfl, rfl, _, key 0 ?_, .int _ _⟩
                generalize hv : a.eval y = cx at hr
                cases hr
                simp [Builtin.len_, run_underlying hu]
              case sl cs len o =>
                cases h
                refine ⟨rfl, rfl, _, key len ?_, .int _ _⟩
                generalize hv : a.eval y = cx at hr
                cases hr <;> simp [Builtin.len_, run_underlying hu]
          · cases hok
        | _ => simp [okOp] at hok
      | _ => simp [okOp] at hok
    | _ => simp [okOp] at hok
  case minmax mx x y =>
    cases op with
    | call c =>
      obtain ⟨callee, args', ts⟩ := c
      cases callee with
      | builtin b =>
        have hok' : ∃ bb : Bool, (bb = true → (b = .max ∧ mx = true) ∨ (b = .min ∧ mx = false)) ∧ (match args'.toList with
          | [x', y'] => okOpd fm x x' && okOpd fm y y' && bb
          | _ => false) = true := by
          refine ⟨(match b with | .max => mx | .min => !mx | _ => false), ?_, ?_⟩
          · intro hb
            cases b <;> simp at hb
            · exact .inl ⟨rfl, hb⟩
            · exact .inr ⟨rfl, hb⟩
          · cases b <;> exact hok
        clear hok
        obtain ⟨bb, hbb, hok'⟩ := hok'
        split at hok'
        · rename_i x' y' e1
          simp only [Bool.and_eq_true] at hok'
          obtain ⟨⟨hx, hy⟩, hb⟩ := hok'
          have hb := hbb hb
          have ea : args' = #[x', y'] := by apply Array.ext'; simpa using e1
          subst ea
          have hrx := okOpd_rep hF hx
          have hry := okOpd_rep hF hy
          split at h
          case h_2 => cases h
          rename_i k i j l hxa hya
          rw [hxa] at hrx
          rw [hya] at hry
          split at h
          · rename_i e
            subst e
            cases h
            rcases hb with ⟨rfl, rfl⟩ | ⟨rfl, rfl⟩
            · refine ⟨rfl, rfl, _, ?_, .int _ _⟩
              simp only [execOp, resolve, Sem.run_bind, Sem.run_pure, Result.andThen_ok, invoke, builtin]
              simp [hrx.int_inv, hry.int_inv, Builtin.max_, Builtin.max2]
            · refine ⟨rfl, rfl, _, ?_, .int _ _⟩
              simp only [execOp, resolve, Sem.run_bind, Sem.run_pure, Result.andThen_ok, invoke, builtin]
              simp [hrx.int_inv, hry.int_inv, Builtin.min_, Builtin.min2]
          · cases h
        · cases hok'
      | _ => simp [okOp] at hok
    | _ => simp [okOp] at hok
end
end Go.Proofs.YtdhgdpokdhjanaaGreat.Abs
/- What becomes of the relation to memory, in general. -/
namespace Go.Proofs.YtdhgdpokdhjanaaGreat.Abs
open Go


section
variable {fm : Nat → Nat} {g g' : Gh} {s s' : ASt} {n n' nt : Nat} {A : Frame} {w w' : World}

theorem CellRep.mono {r c : Nat} {x : AVal} {v : Value} (hle : le (r + 1) g g') (hf : ∀ b, g.own b = .cell r c → Fix g g' b) (hv : g'.vec r c = g.vec r c) (h : CellRep fm g r c x v) :
    CellRep fm g' r c x v := by
  cases x
  case sl cs len o =>
    cases o with
    | none => exact ⟨h.1.mono hle (Nat.le_refl _), by rw [hv]; exact h.2⟩
    | exact => exact ⟨h.1.mono hle (Nat.le_refl _), by rw [hv]; exact h.2⟩
    | moved => exact ⟨h.1.mono hle (Nat.le_refl _), by rw [hv]; exact h.2⟩
    | mine z =>
      obtain ⟨b, base, cap, vs, h1, h2, h3, h4, h5, h6, h7, h8⟩ := h
      obtain ⟨e1, e2, e3⟩ := hf b h7
      exact ⟨b, base, cap, vs, h1, h2, h3.mono hle (Nat.le_refl _), by rw [e2]; exact h4, by rw [e2]; exact h5, by rw [e3]; exact h6, by rw [e1]; exact h7, by rw [hv]; exact h8⟩
    | loc a b => exact h.elim
  all_goals exact ⟨h.1.mono hle (Nat.le_refl _), by rw [hv]; exact h.2⟩

theorem SlotRep.mono {t : Tag} {x : AVal} {v : Value} (hle : le n g g') (hn : n ≤ n') (hf : ∀ b, g.own b = t → Fix g g' b) (h : SlotRep fm g n t x v) : SlotRep fm g' n' t x v := by
  cases x
  case sl cs len o =>
    cases o with
    | none => exact Rep.mono hle hn h
    | exact => exact Rep.mono hle hn h
    | moved => exact Rep.mono hle hn h
    | mine z =>
      obtain ⟨b, base, cap, vs, h1, h2, h3, h4, h5, h6, h7⟩ := h
      obtain ⟨e1, e2, e3⟩ := hf b h7
      exact ⟨b, base, cap, vs, h1, h2, h3.mono hle hn, by rw [e2]; exact h4, by rw [e2]; exact h5, by rw [e3]; exact h6, by rw [e1]; exact h7⟩
    | loc r c =>
      obtain ⟨h1, h2, ⟨b, hb⟩, x, k, h3, h4, h5⟩ := h
      obtain ⟨x', k', e1, e2, e3⟩ := hle.vec r h2 c x k h3
      exact ⟨h1.mono hle hn, by omega, ⟨b, hle.obj r h2 b hb⟩, x', k', e1, by omega, fun e => by rw [h5 (by omega), e3 (by omega)]⟩
  all_goals exact Rep.mono hle hn h

theorem FrameRep.keep {tmps : Array Value} (hle : le n g g') (hn : n ≤ n') (hf : ∀ b d, g.own b = .slot d → Fix g g' b) (h : FrameRep fm g n nt A tmps) : FrameRep fm g' n' nt A tmps :=
  ⟨h.1, fun d hd => let ⟨v, h1, h2⟩ := h.2 d hd; ⟨v, h1, h2.mono hle hn (fun b hb => hf b d hb)⟩⟩

theorem ObjRep.mono {r b : Nat} {o : AObj} (hle : le (r + 1) g g') (hf : ∀ b c, g.own b = .cell r c → Fix g g' b) (hv : ∀ c, g'.vec r c = g.vec r c) (hw : w'.heap[b]? = w.heap[b]?)
    (hbuf : ∀ b, g.own b = .buf r → g'.own b = .buf r ∧ g'.st b = g.st b ∧ w'.heap[b]? = w.heap[b]?) (h : ObjRep fm g w r b o) : ObjRep fm g' w' r b o := by
  cases o with
  | cells cs =>
    obtain ⟨c, elem, h1, h2, h3⟩ := h
    exact ⟨c, elem, by rw [hw]; exact h1, h2, fun i a hi => let ⟨v, h4, h5⟩ := h3 i a hi; ⟨v, h4, h5.mono hle (fun b hb => hf b i hb) (hv i)⟩⟩
  | bld l =>
    obtain ⟨p, v, h1, h2, h3⟩ := h
    refine ⟨p, v, by rw [hw]; exact h1, h2, ?_⟩
    rcases h3 with h3 | ⟨b2, cap, cur, fz, q1, q2, q0, q3, q4⟩
    · exact .inl h3
    · obtain ⟨f1, f0, f2⟩ := hbuf b2 q2
      exact .inr ⟨b2, cap, cur, fz, q1, f1, by rw [f0]; exact q0, by rw [f2]; exact q3, q4⟩
  | map ks vs =>
    obtain ⟨es, clock, h1, h2, h3⟩ := h
    exact ⟨es, clock, by rw [hw]; exact h1, h2.mono hle (Nat.le_refl _), h3.mono hle (Nat.le_refl _)⟩
  | dead => trivial

/-- A step that touches the blocks T alone. -/
theorem Sim.step (T : Nat → Prop) (hS : Sim fm s g w) (hsize : s'.os.length = s'.n) (hle : le s.n g g') (hn : s.n ≤ s'.n)
    (hfix : ∀ b, ¬ T b → Fix g g' b ∧ g'.mst b = g.mst b ∧ w'.heap[b]? = w.heap[b]?) (hTn : ∀ b, w.heap.size ≤ b → b < w'.heap.size → T b) (hws : w.heap.size ≤ w'.heap.size)
    (hobjs : ∀ r o, s'.get r = some o → (s.get r = some o ∧ g'.obj r = g.obj r ∧ (∀ b, g.obj r = some b → ¬ T b) ∧ (∀ c, g'.vec r c = g.vec r c) ∧ ∀ b c, g.own b = .cell r c → ¬ T b) ∨
      ∀ b, g'.obj r = some b → ObjRep fm g' w' r b o)
    (hobjn : ∀ r b, g'.obj r = some b → (g.obj r = some b ∧ ¬ T b) ∨ (r < s'.n ∧ g'.own b = .obj r ∧ b < w'.heap.size ∧ g'.st b = [] ∧ g'.mst b = none))
    (hst : ∀ b, T b → g'.st b ≠ [] ∨ (g'.own b).held = true → ∃ c elem fr, w'.heap[b]? = some (.cells c elem fr) ∧ g'.st b <+: c.toList ∧ c.size = g'.sz b ∧ ((g'.own b).held = true → fr = (0, 0)))
    (hmst : ∀ b, T b → ∀ ks vs, g'.mst b = some (ks, vs) → ∃ es clock, w'.heap[b]? = some (.map es clock) ∧ es.toList.map (·.key) = ks ∧ es.toList.map (·.val) = vs)
    (hfresh : ∀ b, T b → w'.heap.size ≤ b → g'.own b = .free ∧ g'.st b = [] ∧ g'.mst b = none) (hTbuf : ∀ b, T b → ∀ q, g.own b ≠ .buf q) : Sim fm s' g' w' where
  size := hsize
  objs := by
    intro r o hr b hb
    rcases hobjs r o hr with ⟨h1, h2, h3, h4, h5⟩ | h
    · have hlt := ASt.get_lt h1
      rw [h2] at hb
      exact (hS.objs r o h1 b hb).mono (hle.less (by omega)) (fun b' c hb' => (hfix b' (h5 b' c hb')).1) h4 (hfix b (h3 b hb)).2.2 (fun b' hb' => let hT := fun hT => hTbuf b' hT r hb'; ⟨by rw [(hfix b' hT).1.1]; exact hb', (hfix b' hT).1.2.1, (hfix b' hT).2.2⟩)
    · exact h b hb
  objn := by
    intro r b hb
    rcases hobjn r b hb with ⟨h1, h2⟩ | h
    · obtain ⟨e1, e2, e3, e4, e5⟩ := hS.objn r b h1
      obtain ⟨⟨f1, f2, f3⟩, f4, f5⟩ := hfix b h2
      exact ⟨by omega, by rw [f1]; exact e2, by omega, by rw [f2]; exact e4, by rw [f4]; exact e5⟩
    · exact h
  st := by
    intro b hb
    by_cases hT : T b
    · exact hst b hT hb
    · obtain ⟨⟨f1, f2, f3⟩, f4, f5⟩ := hfix b hT
      rw [f1, f2, f3, f5]
      rw [f1, f2] at hb
      exact hS.st b hb
  mst := by
    intro b ks vs hb
    by_cases hT : T b
    · exact hmst b hT ks vs hb
    · obtain ⟨_, f4, f5⟩ := hfix b hT
      rw [f5]
      rw [f4] at hb
      exact hS.mst b ks vs hb
  fresh := by
    intro b hb
    by_cases hT : T b
    · exact hfresh b hT hb
    · obtain ⟨⟨f1, f2, f3⟩, f4, f5⟩ := hfix b hT
      obtain ⟨e1, e2, e3⟩ := hS.fresh b (by omega)
      exact ⟨by rw [f1]; exact e1, by rw [f2]; exact e2, by rw [f4]; exact e3⟩

/-- What an instruction leaves: the value v, the frame A', the state s'. -/
structure Post (fm : Nat → Nat) (nt : Nat) (g : Gh) (w : World) (s s' : ASt) (A' : Frame) (tmps : Array Value) (v : AVal) (cv : Value) (g' : Gh) (w' : World) : Prop where
  sim : Sim fm s' g' w'
  le : le s.n g g'
  n : s.n ≤ s'.n
  kept : Kept g g' w w'
  frame : FrameRep fm g' s'.n nt A' tmps
  res : SlotRep fm g' s'.n .res v cv

/-! ### Whose a block is, changed alone -/

def Gh.tag (g : Gh) (b : Nat) (t : Tag) : Gh := { g with own := fun x => if x = b then t else g.own x }

theorem tag_le (b : Nat) (t : Tag) (n : Nat) : le n g (g.tag b t) :=
  ⟨fun _ _ _ h => h, fun _ => List.prefix_refl _, fun _ _ h => h, fun _ _ _ h k e => ⟨h, k, e, Nat.le_refl _, fun _ => rfl⟩⟩

/-- A block that is held may become another's, if no object's cell and no object has it. -/
theorem Sim.tag {b : Nat} {t : Tag} (hS : Sim fm s g w) (h0 : (g.own b).held = true) (hc : ∀ r c, g.own b ≠ .cell r c) (ht : t.held = true) : Sim fm s (g.tag b t) w where
  size := hS.size
  objs := by
    intro r o hr b' hb'
    refine (hS.objs r o hr b' hb').mono (tag_le b t _) (fun x c hx => ?_) (fun _ => rfl) rfl (fun x hx => ⟨by
      have : x ≠ b := fun e => by rw [← e, hx] at h0; simp [Tag.held] at h0
      simp [Gh.tag, this, hx], rfl, rfl⟩)
    have : x ≠ b := fun e => hc r c (by rw [← e]; exact hx)
    exact ⟨by simp [Gh.tag, this], rfl, rfl⟩
  objn := by
    intro r b' hb'
    obtain ⟨e1, e2, e3, e4, e5⟩ := hS.objn r b' hb'
    have : b' ≠ b := fun e => by rw [← e, e2] at h0; simp [Tag.held] at h0
    exact ⟨e1, by simp [Gh.tag, this, e2], e3, e4, e5⟩
  st := by
    intro x hx
    by_cases e : x = b
    · subst e
      obtain ⟨c, elem, fr, h1, h2, h3, h4⟩ := hS.st x (.inr h0)
      exact ⟨c, elem, fr, h1, h2, h3, fun _ => h4 h0⟩
    · have e2 : (g.tag b t).own x = g.own x := by simp [Gh.tag, e]
      rw [e2] at hx ⊢
      exact hS.st x hx
  mst := hS.mst
  fresh := by
    intro x hx
    obtain ⟨e1, e2, e3⟩ := hS.fresh x hx
    have : x ≠ b := fun e => by rw [← e, e1] at h0; simp [Tag.held] at h0
    exact ⟨by simp [Gh.tag, this, e1], e2, e3⟩

theorem get_put (A : Frame) (d k : Nat) (v : AVal) : Frame.get (A.put d v) k = if d = k then v else A.get k := rfl

/-- The value of an instruction comes into its slot. -/
theorem put_sound {dst : Option Nat} {v : AVal} {cv : Value} {a : Act} (hS : Sim fm s g w) (hF : FrameRep fm g s.n nt A a.tmps) (hv : SlotRep fm g s.n .res v cv) (hd : ∀ d, dst = some d → d < nt) :
    ∃ g', Sim fm s g' w ∧ le s.n g g' ∧ Kept g g' w w ∧ FrameRep fm g' s.n nt (A.putO dst v) (a.put dst cv).tmps := by
  cases dst with
  | none => exact ⟨g, hS, le.refl _ _, Kept.refl _ _, hF⟩
  | some d =>
    have hd := hd d rfl
    have hsz : d < a.tmps.size := by rw [hF.1]; exact hd
    -- the frame, once the block is tagged (or not)
    have frame : ∀ g', le s.n g g' → (∀ b k, g.own b = .slot k → Fix g g' b) → SlotRep fm g' s.n (.slot d) v cv → FrameRep fm g' s.n nt (A.putO (some d) v) (a.put (some d) cv).tmps := by
      intro g' hle hf hv'
      refine ⟨by simp [Act.put, hF.1], fun k hk => ?_⟩
      simp only [Frame.putO, get_put] at hk ⊢
      by_cases e : d = k
      · subst e
        simp only [if_true] at hk ⊢
        exact ⟨cv, by simp [Act.put, hsz], hv'⟩
      · rw [if_neg e] at hk ⊢
        obtain ⟨u, h1, h2⟩ := hF.2 k hk
        exact ⟨u, by simp [Act.put, e, h1], h2.mono hle (Nat.le_refl _) (fun b hb => hf b k hb)⟩
    by_cases hm : ∃ cs len z, v = .sl cs len (.mine z)
    · obtain ⟨cs, len, z, rfl⟩ := hm
      obtain ⟨b, base, cap, vs, h1, h2, h3, h4, h5, h6, h7⟩ := hv
      have hne : ∀ x k, g.own x = .slot k → x ≠ b := fun x k hx e => by rw [e, h7] at hx; cases hx
      have hne' : ∀ x q, g.own x = .other q → x ≠ b := fun x q hx e => by rw [e, h7] at hx; cases hx
      refine ⟨g.tag b (.slot d), hS.tag (by rw [h7]; rfl) (by rw [h7]; intro _ _ h; cases h) rfl, tag_le _ _ _,
        ⟨fun x q hx => ⟨⟨by simp [Gh.tag, hne' x q hx], rfl, rfl⟩, rfl⟩, rfl, rfl, fun _ _ _ => rfl⟩, frame _ (tag_le _ _ _) (fun x k hx => ⟨by simp [Gh.tag, hne x k hx], rfl, rfl⟩) ?_⟩
      exact ⟨b, base, cap, vs, h1, h2, h3.mono (tag_le _ _ _) (Nat.le_refl _), h4, h5, h6, by simp [Gh.tag]⟩
    · refine ⟨g, hS, le.refl _ _, Kept.refl _ _, frame g (le.refl _ _) (fun _ _ _ => ⟨rfl, rfl, rfl⟩) ?_⟩
      cases v
      case sl cs len o =>
        cases o with
        | mine z => exact absurd ⟨cs, len, z, rfl⟩ hm
        | none => exact hv
        | exact => exact hv
        | moved => exact hv
        | loc r c => exact hv
      all_goals exact hv

/-- A value is taken out of its slot, with all that it owns. -/
theorem taken_sound {x : Opd} {y : Operand} {v : AVal} {A' : Frame} {a : Act} (hS : Sim fm s g w) (hF : FrameRep fm g s.n nt A a.tmps) (hok : okOpd fm x y = true) (h : x.taken A = (v, A')) :
    ∃ g', Sim fm s g' w ∧ le s.n g g' ∧ Kept g g' w w ∧ FrameRep fm g' s.n nt A' a.tmps ∧ SlotRep fm g' s.n .res v (a.eval y) ∧ g'.vec = g.vec ∧ g'.obj = g.obj ∧ ∀ b, (∀ d, g.own b ≠ .slot d) → Fix g g' b := by
  have same : ∀ u B, x.taken A = (u, B) → B = A → u = x.ev A → ∃ g', Sim fm s g' w ∧ le s.n g g' ∧ Kept g g' w w ∧ FrameRep fm g' s.n nt B a.tmps ∧ SlotRep fm g' s.n .res u (a.eval y) ∧ g'.vec = g.vec ∧ g'.obj = g.obj ∧ ∀ b, (∀ d, g.own b ≠ .slot d) → Fix g g' b :=
    fun u B _ hB hu => by
      subst hB; subst hu
      exact ⟨g, hS, le.refl _ _, Kept.refl _ _, hF, (okOpd_rep hF hok).slot, rfl, rfl, fun _ _ => ⟨rfl, rfl, rfl⟩⟩
  cases x with
  | val c => simp only [Opd.taken] at h; cases h; exact same _ _ rfl rfl rfl
  | fn i => simp only [Opd.taken] at h; cases h; exact same _ _ rfl rfl rfl
  | tmp d =>
    cases y <;> simp [okOpd] at hok
    subst hok
    simp only [Opd.taken] at h
    split at h
    · rename_i cs len z hget
      cases h
      obtain ⟨cv, h1, h2⟩ := hF.2 d (by rw [hget]; simp)
      rw [hget] at h2
      have hrep : Rep fm g s.n (.sl cs len .none) cv := h2.strip
      obtain ⟨b, base, cap, vs, e1, e2, e3, e4, e5, e6, e7⟩ := h2
      have hev : a.eval (.tmp d) = cv := by
        have hlt : d < a.tmps.size := (Array.getElem?_eq_some_iff.1 h1).1
        simp [Act.eval, Array.getD, hlt, (Array.getElem?_eq_some_iff.1 h1).2]
      have hne : ∀ x, (∀ k, g.own x ≠ .slot k) → x ≠ b := fun x hx e => hx d (by rw [e, e7])
      refine ⟨g.tag b .res, hS.tag (by rw [e7]; rfl) (by rw [e7]; intro _ _ h; cases h) rfl, tag_le _ _ _, ⟨fun x q hx => ⟨⟨?_, rfl, rfl⟩, rfl⟩, rfl, rfl, fun _ _ _ => rfl⟩, ⟨hF.1, fun k hk => ?_⟩, ?_, rfl, rfl, fun x hx => ⟨by simp [Gh.tag, hne x hx], rfl, rfl⟩⟩
      · have := hne x (fun k hk => by rw [hx] at hk; cases hk)
        simp [Gh.tag, this]
      · rw [get_put] at hk ⊢
        by_cases e : d = k
        · subst e
          rw [if_pos rfl]
          exact ⟨cv, h1, hrep.mono (tag_le _ _ _) (Nat.le_refl _)⟩
        · rw [if_neg e] at hk ⊢
          obtain ⟨u, f1, f2⟩ := hF.2 k hk
          refine ⟨u, f1, f2.mono (tag_le _ _ _) (Nat.le_refl _) (fun x hx => ⟨?_, rfl, rfl⟩)⟩
          have : x ≠ b := fun e' => by rw [e', e7] at hx; cases hx; exact e rfl
          simp [Gh.tag, this]
      · rw [hev]
        exact ⟨b, base, cap, vs, e1, e2, e3.mono (tag_le _ _ _) (Nat.le_refl _), e4, e5, e6, by simp [Gh.tag]⟩
    · rename_i hne
      cases h
      exact same _ _ (by simp only [Opd.taken]) rfl rfl

end
end Go.Proofs.YtdhgdpokdhjanaaGreat.Abs
/- New objects, new steady rows, stores. -/
namespace Go.Proofs.YtdhgdpokdhjanaaGreat.Abs
open Go

section
variable {P : Program} {fm : Nat → Nat} {g g' : Gh} {s s' : ASt} {n n' nt : Nat} {A : Frame} {a : Act} {w w' : World}

def Gh.newObj (g : Gh) (r b : Nat) : Gh :=
  { g with obj := fun x => if x = r then some b else g.obj x, own := fun x => if x = b then .obj r else g.own x, vec := fun x c => if x = r then none else g.vec x c }

theorem newObj_le (n b : Nat) : le n g (g.newObj n b) :=
  ⟨fun r hr _ h => by simp [Gh.newObj, show r ≠ n from by omega, h], fun _ => List.prefix_refl _, fun _ _ h => h,
   fun r hr c h k e => ⟨h, k, by simp [Gh.newObj, show r ≠ n from by omega, e], Nat.le_refl _, fun _ => rfl⟩⟩

theorem get_push_new (s : ASt) (o : AObj) : (s.push o).get s.n = some o := by simp [ASt.push, ASt.get, getL]
theorem get_push_old (s : ASt) (o : AObj) {r : Nat} (h : r ≠ s.n) : (s.push o).get r = s.get r := by simp [ASt.push, ASt.get, getL, h]

theorem alloc_get (w : World) (o : Obj) (b : Nat) : (w.alloc o).heap[b]? = if b = w.heap.size then some o else w.heap[b]? := by
  simp only [World.alloc]
  rw [Array.getElem?_push]

theorem newObj_sound {o : AObj} {ob : Obj} (hS : Sim fm s g w) (hF : FrameRep fm g s.n nt A a.tmps)
    (hO : ObjRep fm (g.newObj s.n w.heap.size) (w.alloc ob) s.n w.heap.size o) :
    Post fm nt g w s (s.push o) A a.tmps (.ref s.n 0) (.pointer (some ⟨w.heap.size, 0, none⟩)) (g.newObj s.n w.heap.size) (w.alloc ob) := by
  obtain ⟨f1, f2, f3⟩ := hS.fresh w.heap.size (Nat.le_refl _)
  have hne : ∀ b, b ≠ w.heap.size → Fix g (g.newObj s.n w.heap.size) b := fun b hb => ⟨by simp [Gh.newObj, hb], rfl, rfl⟩
  have hown : ∀ b t, g.own b = t → t ≠ .free → b ≠ w.heap.size := fun b t hb ht e => ht (by rw [← hb, e, f1])
  refine ⟨?_, newObj_le _ _, by simp [ASt.push], ?_, hF.keep (newObj_le _ _) (by simp [ASt.push]) (fun b d hb => hne b (hown b _ hb (by simp))), ?_⟩
  · refine hS.step (· = w.heap.size) (by simp [ASt.push, hS.size]) (newObj_le _ _) (by simp [ASt.push])
      (fun b hb => ⟨hne b hb, rfl, by rw [alloc_get, if_neg hb]⟩) (fun b h1 h2 => by rw [World.size_alloc] at h2; omega) (by rw [World.size_alloc]; omega) ?_ ?_ ?_ ?_ ?_ (fun b hb q e => by subst hb; rw [f1] at e; cases e)
    · intro r o' hr
      by_cases e : r = s.n
      · subst e
        rw [get_push_new] at hr
        cases hr
        right
        intro b hb
        simp [Gh.newObj] at hb
        subst hb
        exact hO
      · rw [get_push_old _ _ e] at hr
        left
        refine ⟨hr, by simp [Gh.newObj, e], fun b hb e2 => ?_, fun c => by simp [Gh.newObj, e], fun b c hb => hown b _ hb (by simp)⟩
        obtain ⟨_, _, h3, _⟩ := hS.objn r b hb
        omega
    · intro r b hb
      by_cases e : r = s.n
      · subst e
        simp [Gh.newObj] at hb
        subst hb
        right
        exact ⟨by simp [ASt.push], by simp [Gh.newObj], by rw [World.size_alloc]; omega, f2, f3⟩
      · left
        simp only [Gh.newObj, if_neg e] at hb
        obtain ⟨_, _, h3, _⟩ := hS.objn r b hb
        exact ⟨hb, by omega⟩
    · intro b hb h
      subst hb
      rcases h with h | h
      · exact absurd f2 h
      · simp [Gh.newObj, Tag.held] at h
    · intro b hb ks vs h
      subst hb
      have : g.mst w.heap.size = some (ks, vs) := h
      rw [f3] at this
      cases this
    · intro b hb h
      subst hb
      rw [World.size_alloc] at h
      omega
  · refine ⟨?_, rfl, rfl, fun _ _ _ => rfl⟩
    intro b q hb
    have := hown b _ hb (by simp)
    exact ⟨hne b this, by rw [alloc_get, if_neg this]⟩
  · exact .ref _ _ _ (by simp [ASt.push]) (by simp [Gh.newObj])

/-- A value without spare places, in a cell. -/
theorem Rep.cell {r c : Nat} {x : AVal} {v : Value} (h : Rep fm g (r + 1) x v) (hv : g.vec r c = none) : CellRep fm g r c x v := by
  cases h
  case sl cs len o b base cap vs ho hc h hp =>
    rcases ho with rfl | ⟨rfl, rfl⟩
    · exact ⟨.sl _ _ _ _ _ _ _ (.inl rfl) hc h hp, hv⟩
    · exact ⟨.sl _ _ _ _ _ _ _ (.inr ⟨rfl, rfl⟩) hc h hp, hv⟩
  all_goals exact ⟨by first | (constructor <;> assumption) | (apply Rep.imapU <;> assumption), hv⟩

theorem cellsRep {r : Nat} {cs : List AVal} {vs : Array Value} (h : RepL fm g (r + 1) cs vs.toList) (hv : ∀ c, g.vec r c = none) :
    vs.size = cs.length ∧ ∀ i a, cs[i]? = some a → ∃ v, vs[i]? = some v ∧ CellRep fm g r i a v :=
  ⟨by rw [h.length]; simp, fun i a hi => let ⟨v, h1, h2⟩ := h.get i a hi; ⟨v, by simpa using h1, h2.cell (hv i)⟩⟩

theorem newCells_sound {cs : List AVal} {vs : Array Value} {elem : Nat} (hS : Sim fm s g w) (hF : FrameRep fm g s.n nt A a.tmps) (h : RepL fm g s.n cs vs.toList) :
    Post fm nt g w s (s.push (.cells cs)) A a.tmps (.ref s.n 0) (.pointer (some ⟨w.heap.size, 0, none⟩)) (g.newObj s.n w.heap.size) (w.alloc (.cells vs elem)) := by
  refine newObj_sound hS hF ?_
  obtain ⟨h1, h2⟩ := cellsRep (r := s.n) (h.mono (newObj_le s.n w.heap.size) (Nat.le_succ _)) (fun c => by simp [Gh.newObj])
  exact ⟨vs, elem, by rw [alloc_get, if_pos rfl], h1, h2⟩

def Gh.newSt (g : Gh) (b : Nat) (vs : List Value) : Gh := { g with st := fun x => if x = b then vs else g.st x, sz := fun x => if x = b then vs.length else g.sz x }

theorem newSt_le {b : Nat} {vs : List Value} (n : Nat) (h : g.st b = []) : le n g (g.newSt b vs) :=
  ⟨fun _ _ _ h => h, fun x => by
      by_cases e : x = b
      · subst e; rw [h]; exact List.nil_prefix
      · simp [Gh.newSt, e], fun _ _ h => h, fun _ _ _ h k e => ⟨h, k, e, Nat.le_refl _, fun _ => rfl⟩⟩

/-- A new row that stays as it is. -/
theorem newSt_sound {vs : Array Value} {elem : Nat} (hS : Sim fm s g w) (hF : FrameRep fm g s.n nt A a.tmps) :
    Sim fm s (g.newSt w.heap.size vs.toList) (w.alloc (.cells vs elem)) ∧ le s.n g (g.newSt w.heap.size vs.toList) ∧ Kept g (g.newSt w.heap.size vs.toList) w (w.alloc (.cells vs elem)) ∧
      FrameRep fm (g.newSt w.heap.size vs.toList) s.n nt A a.tmps ∧ (g.newSt w.heap.size vs.toList).st w.heap.size = vs.toList := by
  obtain ⟨f1, f2, f3⟩ := hS.fresh w.heap.size (Nat.le_refl _)
  have hle := newSt_le (g := g) (vs := vs.toList) s.n f2
  have hne : ∀ b, b ≠ w.heap.size → Fix g (g.newSt w.heap.size vs.toList) b := fun b hb => ⟨rfl, by simp [Gh.newSt, hb], by simp [Gh.newSt, hb]⟩
  have hown : ∀ b t, g.own b = t → t ≠ .free → b ≠ w.heap.size := fun b t hb ht e => ht (by rw [← hb, e, f1])
  refine ⟨?_, hle, ?_, hF.keep hle (Nat.le_refl _) (fun b d hb => hne b (hown b _ hb (by simp))), by simp [Gh.newSt]⟩
  · refine hS.step (· = w.heap.size) hS.size hle (Nat.le_refl _)
      (fun b hb => ⟨hne b hb, rfl, by rw [alloc_get, if_neg hb]⟩) (fun b h1 h2 => by rw [World.size_alloc] at h2; omega) (by rw [World.size_alloc]; omega) ?_ ?_ ?_ ?_ ?_ (fun b hb q e => by subst hb; rw [f1] at e; cases e)
    · intro r o' hr
      left
      refine ⟨hr, rfl, fun b hb e2 => ?_, fun c => rfl, fun b c hb => hown b _ hb (by simp)⟩
      obtain ⟨_, _, h3, _⟩ := hS.objn r b hb
      omega
    · intro r b hb
      left
      obtain ⟨_, _, h3, _⟩ := hS.objn r b hb
      exact ⟨hb, by omega⟩
    · intro b hb h
      subst hb
      exact ⟨vs, elem, (0, 0), by rw [alloc_get, if_pos rfl], by simp [Gh.newSt], by simp [Gh.newSt], fun _ => rfl⟩
    · intro b hb ks us h
      subst hb
      have : g.mst w.heap.size = some (ks, us) := h
      rw [f3] at this
      cases this
    · intro b hb h
      subst hb
      rw [World.size_alloc] at h
      omega
  · refine ⟨?_, rfl, rfl, fun _ _ _ => rfl⟩
    intro b q hb
    have := hown b _ hb (by simp)
    exact ⟨hne b this, by rw [alloc_get, if_neg this]⟩

theorem newMap_sound (hS : Sim fm s g w) (hF : FrameRep fm g s.n nt A a.tmps) :
    Post fm nt g w s (s.push (.map [] [])) A a.tmps (.map s.n) (.map (some w.heap.size)) (g.newObj s.n w.heap.size) (w.alloc (.map #[] 0)) := by
  have h := newObj_sound (o := .map [] []) (ob := .map #[] 0) hS hF ⟨#[], 0, by rw [alloc_get, if_pos rfl], .nil, .nil⟩
  exact ⟨h.sim, h.le, h.n, h.kept, h.frame, .map _ _ (by simp [ASt.push]) (by simp [Gh.newObj])⟩

end
end Go.Proofs.YtdhgdpokdhjanaaGreat.Abs
/- Stores into objects. -/
namespace Go.Proofs.YtdhgdpokdhjanaaGreat.Abs
open Go

section
variable {P : Program} {fm : Nat → Nat} {g g' : Gh} {s s' : ASt} {n n' nt : Nat} {A : Frame} {a : Act} {w w' : World}

theorem setL_length : ∀ (os : List AObj) (n r : Nat) (x : AObj), (setL os n r x).length = os.length
  | [], _, _, _ => rfl
  | _ :: _, 0, _, _ => rfl
  | o :: os, n + 1, r, x => by
    simp only [setL]
    split
    · rfl
    · simp [setL_length os n r x]
theorem getL_setL_same : ∀ {os : List AObj} {n r : Nat} {o x : AObj}, getL os n r = some o → getL (setL os n r x) n r = some x
  | [], _, _, _, _, h => by simp [getL] at h
  | _ :: _, 0, _, _, _, h => by simp [getL] at h
  | y :: os, n + 1, r, o, x, h => by
    simp only [getL, setL] at h ⊢
    by_cases e : r = n
    · simp [e, getL]
    · rw [if_neg e] at h ⊢
      simp only [getL, if_neg e]
      exact getL_setL_same h
theorem getL_setL_other : ∀ {os : List AObj} {n r k : Nat} {x : AObj}, k ≠ r → getL (setL os n r x) n k = getL os n k
  | [], _, _, _, _, _ => rfl
  | _ :: _, 0, _, _, _, _ => rfl
  | y :: os, n + 1, r, k, x, h => by
    simp only [setL]
    by_cases e : r = n
    · simp only [e, if_true, getL]
      subst e
      rw [if_neg h, if_neg h]
    · rw [if_neg e]
      simp only [getL]
      split
      · rfl
      · exact getL_setL_other h

theorem ASt.get_set_same {r : Nat} {o x : AObj} (h : s.get r = some o) : (s.set r x).get r = some x := getL_setL_same h
theorem ASt.get_set_other {r k : Nat} {x : AObj} (h : k ≠ r) : (s.set r x).get k = s.get k := getL_setL_other h
theorem ASt.set_n (s : ASt) (r : Nat) (x : AObj) : (s.set r x).n = s.n := rfl

theorem one_cell {x : AVal} {v : Value} (h : Rep fm g n x v) (h1 : x.one = true) : v.oneCell' = true := by
  cases h <;> simp [AVal.one] at h1 <;> rfl

theorem setRow_get (w : World) {b : Nat} {c c' : Array Value} {elem : Nat} {fr : Nat × Nat} (h : w.heap[b]? = some (.cells c elem fr)) (k : Nat) :
    (w.setRow b c').heap[k]? = if k = b then some (.cells c' elem fr) else w.heap[k]? := by
  have hlt : b < w.heap.size := (Array.getElem?_eq_some_iff.1 h).1
  by_cases e : k = b
  · subst e
    rw [if_pos rfl]
    exact setRow_heap w k c c' elem fr h
  · rw [if_neg e]
    simp [World.setRow, Array.getElem?_modify, Ne.symm e]

theorem setRow_size (w : World) (b : Nat) (c' : Array Value) : (w.setRow b c').heap.size = w.heap.size := by simp [World.setRow]

theorem splice_length {cs new : List AVal} {off : Nat} (h : off + new.length ≤ cs.length) : (splice cs off new).length = cs.length := by
  simp [splice]; omega

theorem splice_get {α : Type} {cs new : List α} {off i : Nat} (h : off + new.length ≤ cs.length) :
    (cs.take off ++ new ++ cs.drop (off + new.length))[i]? = if off ≤ i ∧ i < off + new.length then new[i - off]? else cs[i]? := by
  have e1 : (cs.take off).length = off := by simp; omega
  by_cases h1 : i < off
  · rw [if_neg (by omega), List.append_assoc, List.getElem?_append_left (by omega), List.getElem?_take, if_pos h1]
  · by_cases h2 : i < off + new.length
    · rw [if_pos (by omega), List.getElem?_append_left (by simp; omega), List.getElem?_append_right (by omega), e1]
    · rw [if_neg (by omega), List.getElem?_append_right (by simp; omega), List.getElem?_drop]
      congr 1
      simp
      omega

theorem mayPutL_get : ∀ {old new : List AVal} {i : Nat} {x y : AVal}, mayPutL old new = true → old[i]? = some x → new[i]? = some y → mayPut x y = true
  | [], [], i, _, _, _, _, h => by simp at h
  | _, [], i, _, _, _, _, h => by simp at h
  | [], _ :: _, _, _, _, h, _, _ => by simp [mayPutL] at h
  | a :: l, b :: m, 0, x, y, h, h1, h2 => by
    simp only [mayPutL, Bool.and_eq_true] at h
    simp at h1 h2
    subst h1; subst h2
    exact h.1
  | a :: l, b :: m, i + 1, x, y, h, h1, h2 => by
    simp only [mayPutL, Bool.and_eq_true] at h
    exact mayPutL_get h.2 (by simpa using h1) (by simpa using h2)

theorem underL_get : ∀ {k : Nat} {cs : List AVal} {i : Nat} {x : AVal}, underL k cs = true → cs[i]? = some x → x.under k = true
  | _, [], _, _, _, h => by simp at h
  | _, a :: l, 0, x, h, h1 => by simp [underL] at h; simp at h1; subst h1; exact h.1
  | _, a :: l, i + 1, x, h, h1 => by simp [underL] at h; exact underL_get h.2 (by simpa using h1)

/-- A cell without spare places known of it has no row behind it. -/
theorem CellRep.vec_none {r c : Nat} {x : AVal} {v : Value} (h : CellRep fm g r c x v) (h1 : ∀ cs len z, x ≠ .sl cs len (.mine z)) (h2 : ∀ cs len, x ≠ .sl cs len .moved) : g.vec r c = none := by
  cases x
  case sl cs len o =>
    cases o with
    | none => exact h.2
    | exact => exact h.2
    | moved => exact absurd rfl (h2 cs len)
    | mine z => exact absurd rfl (h1 cs len z)
    | loc a b => exact h.elim
  all_goals exact h.2

/-- The cells of object r are written over, with values that own nothing. -/
theorem write_plain {r off b : Nat} {cs new : List AVal} {vs : List Value} {c : Array Value} {elem : Nat} (hS : Sim fm s g w) (hF : FrameRep fm g s.n nt A a.tmps)
    (hr : s.get r = some (.cells cs)) (hb : g.obj r = some b) (hw : w.heap[b]? = some (.cells c elem (0, 0))) (hle : off + new.length ≤ cs.length) (hmay : mayPutL (cs.drop off) new = true)
    (hnew : RepL fm g (r + 1) new vs) :
    let w' := w.setRow b (c.toList.take off ++ vs ++ c.toList.drop (off + vs.length)).toArray
    Sim fm (s.set r (.cells (splice cs off new))) g w' ∧ Kept g g w w' ∧ FrameRep fm g s.n nt A a.tmps := by
  intro w'
  obtain ⟨c', elem', hw2, hsz, hcells⟩ := hS.objs r _ hr b hb
  rw [hw] at hw2
  cases hw2
  obtain ⟨o1, o2, o3, o4, o5⟩ := hS.objn r b hb
  have hl := hnew.length
  have hcl : c.toList.length = cs.length := by simp [hsz]
  have hget : ∀ k, w'.heap[k]? = if k = b then some (.cells (c.toList.take off ++ vs ++ c.toList.drop (off + vs.length)).toArray elem (0, 0)) else w.heap[k]? := setRow_get w hw
  refine ⟨?_, ⟨fun x q hx => ⟨⟨rfl, rfl, rfl⟩, ?_⟩, rfl, rfl, fun _ _ _ => rfl⟩, hF⟩
  · refine hS.step (· = b) (by simp [ASt.set, setL_length, hS.size]) (le.refl _ _) (Nat.le_refl _) (fun x hx => ⟨⟨rfl, rfl, rfl⟩, rfl, by rw [hget, if_neg hx]⟩)
      (fun x h1 h2 => by rw [setRow_size] at h2; omega) (by rw [setRow_size]; exact Nat.le_refl _) ?_ ?_ ?_ ?_ ?_ (fun x hx q e => by rw [hx, o2] at e; cases e)
    · intro k o hk
      by_cases e : k = r
      · subst e
        rw [ASt.get_set_same hr] at hk
        cases hk
        right
        intro b' hb'
        rw [hb] at hb'
        cases hb'
        refine ⟨_, elem, by rw [hget, if_pos rfl], ?_, ?_⟩
        · simp only [List.size_toArray]
          rw [splice_length hle]
          simp
          omega
        · intro i x hx
          unfold splice at hx
          rw [splice_get hle] at hx
          simp only [List.getElem?_toArray]
          rw [splice_get (by rw [← hl]; omega), ← hl]
          split at hx
          · rename_i hi
            rw [if_pos hi]
            obtain ⟨v, h1, h2⟩ := hnew.get _ _ hx
            refine ⟨v, h1, h2.cell ?_⟩
            have hlt : i < cs.length := by omega
            obtain ⟨u, hu, hcr⟩ := hcells i cs[i] (by simp [hlt])
            have hmp := mayPutL_get (i := i - off) (x := cs[i]) hmay (by simp [show off + (i - off) = i from by omega, hlt]) hx
            refine hcr.vec_none ?_ ?_
            · intro ds len z e
              rw [e] at hmp
              cases h2 <;> simp [mayPut] at hmp
              rename_i ho _ _ _
              rcases ho with rfl | ⟨rfl, _⟩ <;> simp at hmp
            · intro ds len e
              rw [e] at hmp
              cases h2 <;> simp [mayPut] at hmp
              rename_i ho _ _ _
              rcases ho with rfl | ⟨rfl, _⟩ <;> simp at hmp
          · rename_i hi
            rw [if_neg hi]
            obtain ⟨v, h1, h2⟩ := hcells i x hx
            exact ⟨v, by simpa using h1, h2⟩
      · rw [ASt.get_set_other e] at hk
        left
        refine ⟨hk, rfl, fun b' hb' e2 => ?_, fun _ => rfl, fun b' c' hb' e2 => ?_⟩
        · subst e2
          obtain ⟨_, q2, _⟩ := hS.objn k b' hb'
          rw [o2] at q2
          cases q2
          exact e rfl
        · subst e2
          rw [o2] at hb'
          cases hb'
    · intro k b' hb'
      by_cases e : b' = b
      · right
        subst e
        obtain ⟨q1, q2, q3, q4, q5⟩ := hS.objn k b' hb'
        exact ⟨q1, q2, by rw [setRow_size]; exact q3, q4, q5⟩
      · exact .inl ⟨hb', e⟩
    · intro x hx h
      subst hx
      rcases h with h | h
      · exact absurd o4 h
      · rw [o2] at h; simp [Tag.held] at h
    · intro x hx ks us h
      subst hx
      rw [o5] at h
      cases h
    · intro x hx h
      subst hx
      rw [setRow_size] at h
      omega
  · have : x ≠ b := fun e => by rw [e, o2] at hx; cases hx
    rw [hget, if_neg this]

def Gh.inCell (g : Gh) (b r c : Nat) (v : Value) (k : Nat) : Gh :=
  { g with own := fun x => if x = b then .cell r c else g.own x, vec := fun x y => if x = r ∧ y = c then some (v, k) else g.vec x y }

/-- One cell of object r is written over, with a slice and the places behind it. -/
theorem write_mine {r off b len z : Nat} {cs ds : List AVal} {v : Value} {c : Array Value} {elem : Nat} (hS : Sim fm s g w) (hF : FrameRep fm g s.n nt A a.tmps)
    (hr : s.get r = some (.cells cs)) (hb : g.obj r = some b) (hw : w.heap[b]? = some (.cells c elem (0, 0))) (hle : off + 1 ≤ cs.length) (hmay : mayPutL (cs.drop off) [.sl ds len (.mine z)] = true)
    (hnew : SlotRep fm g s.n .res (.sl ds len (.mine z)) v) (hu : underL (r + 1) ds = true) :
    let w' := w.setRow b (c.toList.take off ++ [v] ++ c.toList.drop (off + 1)).toArray
    ∃ g', Sim fm (s.set r (.cells (splice cs off [.sl ds len (.mine z)]))) g' w' ∧ le s.n g g' ∧ Kept g g' w w' ∧ FrameRep fm g' s.n nt A a.tmps := by
  intro w'
  obtain ⟨c', elem', hw2, hsz, hcells⟩ := hS.objs r _ hr b hb
  rw [hw] at hw2
  cases hw2
  obtain ⟨o1, o2, o3, o4, o5⟩ := hS.objn r b hb
  obtain ⟨b2, base, cap, vs, hv, m2, m3, m4, m5, m6, m7⟩ := hnew
  have hcl : c.toList.length = cs.length := by simp [hsz]
  have hget : ∀ k, w'.heap[k]? = if k = b then some (.cells (c.toList.take off ++ [v] ++ c.toList.drop (off + 1)).toArray elem (0, 0)) else w.heap[k]? := setRow_get w hw
  have hb2 : b2 ≠ b := fun e => by rw [e, o2] at m7; cases m7
  have hfix : ∀ x, x ≠ b2 → Fix g (g.inCell b2 r off v ds.length) x := fun x hx => ⟨by simp [Gh.inCell, hx], rfl, rfl⟩
  have hlt : off < cs.length := by omega
  obtain ⟨u, hu1, hcr⟩ := hcells off cs[off] (by simp [hlt])
  have hmp := mayPutL_get (i := 0) (x := cs[off]) hmay (by simp [hlt]) rfl
  have hle' : le s.n g (g.inCell b2 r off v ds.length) := by
    refine ⟨fun _ _ _ h => h, fun _ => List.prefix_refl _, fun _ _ h => h, fun q hq k h0 k0 e => ?_⟩
    by_cases hqk : q = r ∧ k = off
    · obtain ⟨rfl, rfl⟩ := hqk
      refine ⟨v, ds.length, by simp [Gh.inCell], ?_⟩
      have : k0 < ds.length := by
        generalize hx : cs[k] = x at *
        cases x
        case sl es el o =>
          cases o with
          | mine z' =>
            obtain ⟨_, _, _, _, _, _, _, _, _, _, _, hvec⟩ := hcr
            rw [hvec] at e
            cases e
            simpa [mayPut] using hmp
          | moved =>
            obtain ⟨_, hvec⟩ := hcr
            rw [hvec] at e
            cases e
            simpa [mayPut] using hmp
          | none => rw [hcr.2] at e; cases e
          | exact => rw [hcr.2] at e; cases e
          | loc _ _ => exact hcr.elim
        all_goals (rw [hcr.2] at e; cases e)
      exact ⟨by omega, fun h => by omega⟩
    · exact ⟨h0, k0, by simp only [Gh.inCell, if_neg hqk]; exact e, Nat.le_refl _, fun _ => rfl⟩
  refine ⟨g.inCell b2 r off v ds.length, ?_, hle', ⟨fun x q hx => ⟨?_, ?_⟩, rfl, rfl, fun _ _ _ => rfl⟩, hF.keep hle' (Nat.le_refl _) (fun x d hx => hfix x (fun e => by rw [e, m7] at hx; cases hx))⟩
  · refine hS.step (fun x => x = b ∨ x = b2) (by simp [ASt.set, setL_length, hS.size]) hle' (Nat.le_refl _)
      (fun x hx => ⟨hfix x (fun e => hx (.inr e)), rfl, by rw [hget, if_neg (fun e => hx (.inl e))]⟩)
      (fun x h1 h2 => by rw [setRow_size] at h2; omega) (by rw [setRow_size]; exact Nat.le_refl _) ?_ ?_ ?_ ?_ ?_ (fun x hx q e => by rcases hx with hx | hx; (rw [hx, o2] at e; cases e); (rw [hx, m7] at e; cases e))
    · intro k o hk
      by_cases e : k = r
      · subst e
        rw [ASt.get_set_same hr] at hk
        cases hk
        right
        intro b' hb'
        have hb'' : g.obj k = some b' := hb'
        rw [hb] at hb''
        cases hb''
        refine ⟨_, elem, by rw [hget, if_pos rfl], ?_, ?_⟩
        · simp only [List.size_toArray]
          rw [splice_length (by simpa using hle)]
          simp
          omega
        · intro i x hx
          unfold splice at hx
          rw [splice_get (by simpa using hle)] at hx
          simp only [List.getElem?_toArray]
          have := splice_get (cs := c.toList) (new := [v]) (off := off) (i := i) (by simp; omega)
          simp only [List.length_singleton] at this hx
          rw [this]
          by_cases hi : off ≤ i ∧ i < off + 1
          · rw [if_pos hi] at hx ⊢
            have hio : i = off := by omega
            subst hio
            simp only [Nat.sub_self, List.getElem?_cons_zero, Option.some.injEq] at hx ⊢
            subst hx
            refine ⟨v, rfl, b2, base, cap, vs, hv, m2, (m3.lower hu).mono (hle'.less (by omega)) (Nat.le_refl _), m4, m5, m6, by simp [Gh.inCell], by simp [Gh.inCell]⟩
          · rw [if_neg hi] at hx ⊢
            obtain ⟨y, h1, h2⟩ := hcells i x hx
            refine ⟨y, by simpa using h1, h2.mono (hle'.less (by omega)) (fun b' hb' => hfix b' (fun e => by rw [e, m7] at hb'; cases hb')) ?_⟩
            simp only [Gh.inCell]
            rw [if_neg (by omega)]
      · rw [ASt.get_set_other e] at hk
        left
        refine ⟨hk, rfl, fun b' hb' e2 => ?_, fun y => by simp [Gh.inCell, e], fun b' c' hb' e2 => ?_⟩
        · obtain ⟨_, q2, _⟩ := hS.objn k b' hb'
          rcases e2 with rfl | rfl
          · rw [o2] at q2
            cases q2
            exact e rfl
          · rw [m7] at q2
            cases q2
        · rcases e2 with rfl | rfl
          · rw [o2] at hb'
            cases hb'
          · rw [m7] at hb'
            cases hb'
    · intro k b' hb'
      by_cases e : b' = b
      · right
        subst e
        obtain ⟨q1, q2, q3, q4, q5⟩ := hS.objn k b' hb'
        exact ⟨q1, by simp [Gh.inCell, Ne.symm hb2, q2], by rw [setRow_size]; exact q3, q4, q5⟩
      · have hb'' : g.obj k = some b' := hb'
        obtain ⟨q1, q2, _⟩ := hS.objn k b' hb''
        exact .inl ⟨hb'', fun h => h.elim e (fun h => by rw [h, m7] at q2; cases q2)⟩
    · intro x hx h
      rcases hx with rfl | rfl
      · rcases h with h | h
        · exact absurd o4 h
        · simp [Gh.inCell, Ne.symm hb2, o2, Tag.held] at h
      · obtain ⟨d, el, fr, q1, q2, q3, q4⟩ := hS.st x (.inr (by rw [m7]; rfl))
        exact ⟨d, el, fr, by rw [hget, if_neg hb2]; exact q1, q2, q3, fun _ => q4 (by rw [m7]; rfl)⟩
    · intro x hx ks us h
      have h : g.mst x = some (ks, us) := h
      rcases hx with rfl | rfl
      · rw [o5] at h
        cases h
      · obtain ⟨es, clock, q1, _⟩ := hS.mst x ks us h
        obtain ⟨d, el, fr, q2, _⟩ := hS.st x (.inr (by rw [m7]; rfl))
        rw [q1] at q2
        cases q2
    · intro x hx h
      rw [setRow_size] at h
      rcases hx with rfl | rfl
      · omega
      · obtain ⟨e1, _⟩ := hS.fresh x h
        rw [m7] at e1
        cases e1
  · exact hfix x (fun e => by rw [e, m7] at hx; cases hx)
  · have : x ≠ b := fun e => by rw [e, o2] at hx; cases hx
    rw [hget, if_neg this]

end
end Go.Proofs.YtdhgdpokdhjanaaGreat.Abs
/- append. -/
namespace Go.Proofs.YtdhgdpokdhjanaaGreat.Abs
open Go

section
variable {P : Program} {fm : Nat → Nat} {g g' : Gh} {s s' : ASt} {n n' nt : Nat} {A A1 : Frame} {a : Act} {w w' : World}

/-! ### What append does -/

def notInt : TypeDesc → Bool
  | .int _ => false
  | _ => true
def isStr : TypeDesc → Bool
  | .string => true
  | _ => false


theorem run_append_in {t u ty e : Nat} {i : TypeInfo} {d : TypeDesc} {x : Value} {k b off sLen sCap : Nat} {cur : Array Value} {te : Nat} {news : List Value}
    (ht : P.underlying t = some (.slice e)) (hu : P.underlying u = some d) (hd : notInt d = true) (hi : P.info? e = some i)
    (hl : (Builtin.lenOf x).run P w = .ok k w) (hf : (Builtin.firstCells i.size k x).run P w = .ok news.toArray w)
    (hg : w.heap[b]? = some (.cells cur te (0, 0))) (h1 : ∀ v ∈ news, v.oneCell' = true) (hroom : sLen + k ≤ sCap) (hfit : off + sLen * i.size + news.length ≤ cur.size) :
    (Builtin.append_ #[t, u] ty #[.slice (some ⟨b, off, none⟩) sLen sCap, x]).run P w =
      .ok (.slice (some ⟨b, off, none⟩) (sLen + k) sCap) (w.setRow b (cur.toList.take (off + sLen * i.size) ++ news ++ cur.toList.drop (off + sLen * i.size + news.length)).toArray) := by
  have hst := run_storeCells_at P b (off + sLen * i.size) te news 0 cur w hg (by simpa using hfit) h1
  simp only [Nat.add_zero] at hst
  cases d with
  | int _ => cases hd
  | _ => simp only [Builtin.append_, List.getElem?_toArray, List.getElem?_cons_zero, List.getElem?_cons_succ, Sem.run_bind, run_underlying ht, run_underlying hu, Result.andThen_ok, sizeOf, run_typeInfo hi, Sem.run_pure,
      Bool.false_eq_true, if_false, Bool.not_false, if_true, hl, if_pos hroom, hf, add_mk, hst]

theorem run_append_out {t u ty e : Nat} {i : TypeInfo} {d : TypeDesc} {x z : Value} {k sLen sCap : Nat} {base : Option Addr} {olds news : List Value}
    (ht : P.underlying t = some (.slice e)) (hu : P.underlying u = some d) (hd : notInt d = true) (hi : P.info? e = some i) (hz : i.zero = some z)
    (hl : (Builtin.lenOf x).run P w = .ok k w) (hf : (Builtin.firstCells i.size k x).run P w.drew = .ok news.toArray w.drew)
    (ho : (Builtin.firstCells i.size sLen (.slice base sLen sCap)).run P w.drew = .ok olds.toArray w.drew) (hlim : sLen + k ≤ 2 ^ 36) (hb : i.bytes ≤ 128)
    (hgrow : sCap < sLen + k) :
    (Builtin.append_ #[t, u] ty #[.slice base sLen sCap, x]).run P w =
      .ok (.slice (some ⟨w.heap.size, 0, none⟩) (sLen + k) (grownCap w (sLen + k) sCap e))
        (w.drew.alloc (.cells (olds ++ news ++ (Builtin.zeroCells z.cells (grownCap w (sLen + k) sCap e - (sLen + k))).toList).toArray e)) := by
  have hn : ¬ (sLen + k ≤ sCap) := by omega
  have h63 : ¬ (((sLen + k : Nat) : Int) > IntKind.i64.max ∧ (false = true ∨ i.bytes = 0)) := by
    intro h
    have : IntKind.i64.max = 9223372036854775807 := by decide
    omega
  have hfit : ¬ (Builtin.nextslicecap (sLen + k) sCap * i.bytes > 2 ^ 48) := by
    have h1 := nextslicecap_le hgrow
    have h2 : Builtin.nextslicecap (sLen + k) sCap * i.bytes ≤ (2 * 2 ^ 36) * 128 := Nat.mul_le_mul (by omega) hb
    omega
  have h63' : ¬ (((sLen + k : Nat) : Int) > IntKind.i64.max ∧ (i.bytes = 0)) := fun h => h63 ⟨h.1, .inr h.2⟩
  have hch : (choose (.appendCap (sLen + k) sCap e)).run P w = .ok (grownCap w (sLen + k) sCap e) w.drew := by
    simp [Question.forced, grownCap]
  cases d with
  | int _ => cases hd
  | _ =>
    simp only [Builtin.append_, List.getElem?_toArray, List.getElem?_cons_zero, List.getElem?_cons_succ, Sem.run_bind, run_underlying ht, run_underlying hu, Result.andThen_ok, sizeOf, run_typeInfo hi, Sem.run_pure,
      Bool.false_eq_true, if_false, Bool.not_false, if_true, hl, if_neg hn, if_neg hfit, false_or, if_neg h63', hch, run_askRoom, ho, hf, zeroValue, hz, newRow, run_newObj, World.alloc_eq]
    simp
    congr 2
    apply Array.ext'
    simp

/-! ### What is appended, and onto what -/

theorem new_run {y : AVal} {cy : Value} {new : List AVal} {k size t e : Nat} {d : TypeDesc} (hS : Sim fm s g w) (hy : Rep fm g s.n y cy) (h : newCells y = some (new, k)) (hlen : new.length = k * size)
    
    :
    ∃ news : List Value, (Builtin.lenOf cy).run P w = .ok k w ∧ (∀ wx : World, wx.heap = w.heap → (Builtin.firstCells size k cy).run P wx = .ok news.toArray wx) ∧ RepL fm g s.n new news := by
  cases y <;> simp only [newCells] at h <;> try (cases h; done)
  case nils =>
    cases h
    cases hy
    exact ⟨[], by simp [Builtin.lenOf], fun wx _ => by simp [Builtin.firstCells], .nil⟩
  case str l =>
    cases h
    rw [hy.str_inv]
    have hs : (ByteArray.mk l.toArray).size = l.length := by simp [ByteArray.size]
    refine ⟨l.map fun b => .int .u8 b.toNat, by simp [Builtin.lenOf, hs], fun wx _ => ?_, ?_⟩
    · simp only [Builtin.firstCells, Sem.run_pure]
      congr 1
      apply Array.ext'
      simp [ByteArray.data_extract]
    · unfold byteCells
      clear hlen hs hy
      induction l with
      | nil => exact .nil
      | cons b l ih => exact .cons _ _ _ _ (.int _ _) ih
  case sl cs len o =>
    cases h
    cases hy with
    | sl0 ad cap =>
      refine ⟨[], by simp [Builtin.lenOf], fun wx hwx => ?_, .nil⟩
      have := run_loadCells_list (P := P) (w := wx) ad [] (fun j v hj => by simp at hj)
      simp only [Builtin.firstCells]
      rw [← hlen]
      exact this
    | sl _ _ _ b base cap vs ho hc hR hp =>
    refine ⟨vs, by simp [Builtin.lenOf], fun wx hwx => ?_, hR⟩
    have hl := hR.length
    have := run_loadCells_list (P := P) (w := wx) ⟨b, base, none⟩ vs (fun j v hj => by
      rw [add_mk]
      have := hS.cell hp hj
      simpa [World.cell?, hwx] using this)
    simp only [Builtin.firstCells]
    rw [← hlen, hl]
    exact this

/-- The cell c of object r gives its slice away. -/
theorem move_out {r c b z m : Nat} {os ds : List AVal} (hS : Sim fm s g w) (hF : FrameRep fm g s.n nt A a.tmps) (hr : s.get r = some (.cells os)) (hc : os[c]? = some (.sl ds m (.mine z))) (hb : g.obj r = some b)
    {cv : Value} (hcv : ∃ ca el, w.heap[b]? = some (.cells ca el (0, 0)) ∧ ca[c]? = some cv) :
    ∃ g1, Sim fm (s.set r (.cells (os.set c (.sl ds m .moved)))) g1 w ∧ le s.n g g1 ∧ Kept g g1 w w ∧ FrameRep fm g1 s.n nt A a.tmps ∧ SlotRep fm g1 s.n .res (.sl ds m (.mine z)) cv := by
  obtain ⟨ca, el, hw, hca⟩ := hcv
  obtain ⟨ca', el', hw', hsz, hcells⟩ := hS.objs r _ hr b hb
  rw [hw] at hw'
  cases hw'
  obtain ⟨v, hv, hcr⟩ := hcells c _ hc
  rw [hca] at hv
  cases hv
  have hrep := hcr.strip (n := s.n) (ASt.get_lt hr)
  have hcr0 := hcr
  obtain ⟨b2, base, cap, vs, e1, e2, e3, e4, e5, e6, e7, e8⟩ := hcr
  obtain ⟨o1, o2, o3, o4, o5⟩ := hS.objn r b hb
  have hfix : ∀ x, x ≠ b2 → Fix g (g.tag b2 .res) x := fun x hx => ⟨by simp [Gh.tag, hx], rfl, rfl⟩
  have hb2 : b2 ≠ b := fun e => by rw [e, o2] at e7; cases e7
  refine ⟨g.tag b2 .res, ?_, tag_le _ _ _, ⟨fun x q hx => ⟨?_, rfl⟩, rfl, rfl, fun _ _ _ => rfl⟩, hF.keep (tag_le _ _ _) (Nat.le_refl _) (fun x d hx => hfix x (fun e => by rw [e, e7] at hx; cases hx)), ?_⟩
  · refine hS.step (fun x => x = b ∨ x = b2) (by simp [ASt.set, setL_length, hS.size]) (tag_le _ _ _) (Nat.le_refl _)
      (fun x hx => ⟨hfix x (fun e => hx (.inr e)), rfl, rfl⟩) (fun x h1 h2 => by omega) (Nat.le_refl _) ?_ ?_ ?_ ?_ ?_ (fun x hx q e => by rcases hx with hx | hx; (rw [hx, o2] at e; cases e); (rw [hx, e7] at e; cases e))
    · intro k o hk
      by_cases e : k = r
      · subst e
        rw [ASt.get_set_same hr] at hk
        cases hk
        right
        intro b' hb'
        have hb'' : g.obj k = some b' := hb'
        rw [hb] at hb''
        cases hb''
        refine ⟨ca, el, hw, by simp [hsz], ?_⟩
        intro i x hx
        rw [List.getElem?_set] at hx
        by_cases hi : c = i
        · subst hi
          rw [if_pos rfl] at hx
          split at hx
          · cases hx
            refine ⟨cv, hca, ?_, e8⟩
            exact (hcr0.strip (n := k + 1) (Nat.lt_succ_self k)).mono (tag_le _ _ _) (Nat.le_refl _)
          · cases hx
        · rw [if_neg hi] at hx
          obtain ⟨y, h1, h2⟩ := hcells i x hx
          refine ⟨y, h1, h2.mono (tag_le _ _ _) (fun b' hb' => hfix b' (fun e => by rw [e, e7] at hb'; cases hb'; exact hi rfl)) rfl⟩
      · rw [ASt.get_set_other e] at hk
        left
        refine ⟨hk, rfl, fun b' hb' e2 => ?_, fun _ => rfl, fun b' c' hb' e2 => ?_⟩
        · obtain ⟨_, q2, _⟩ := hS.objn k b' hb'
          rcases e2 with rfl | rfl
          · rw [o2] at q2; cases q2; exact e rfl
          · rw [e7] at q2; cases q2
        · rcases e2 with rfl | rfl
          · rw [o2] at hb'; cases hb'
          · rw [e7] at hb'; cases hb'; exact e rfl
    · intro k b' hb'
      by_cases e : b' = b
      · right
        subst e
        obtain ⟨q1, q2, q3, q4, q5⟩ := hS.objn k b' hb'
        exact ⟨q1, by simp [Gh.tag, Ne.symm hb2, q2], q3, q4, q5⟩
      · have hb'' : g.obj k = some b' := hb'
        obtain ⟨q1, q2, _⟩ := hS.objn k b' hb''
        exact .inl ⟨hb'', fun h => h.elim e (fun h => by rw [h, e7] at q2; cases q2)⟩
    · intro x hx h
      rcases hx with rfl | rfl
      · rcases h with h | h
        · exact absurd o4 h
        · simp [Gh.tag, Ne.symm hb2, o2, Tag.held] at h
      · obtain ⟨d, el, fr, q1, q2, q3, q4⟩ := hS.st x (.inr (by rw [e7]; rfl))
        exact ⟨d, el, fr, q1, q2, q3, fun _ => q4 (by rw [e7]; rfl)⟩
    · intro x hx ks us h
      exact hS.mst x ks us h
    · intro x hx h
      rcases hx with rfl | rfl
      · omega
      · obtain ⟨e1, _⟩ := hS.fresh x h
        rw [e7] at e1
        cases e1
  · exact hfix x (fun e => by rw [e, e7] at hx; cases hx)
  · exact ⟨b2, base, cap, vs, e1, e2, (e3.mono (tag_le _ _ _) (by omega)), e4, e5, e6, by simp [Gh.tag]⟩

theorem base_sound {x : Opd} {y : Operand} {cs : List AVal} {k size : Nat} {s1 : ASt} (hS : Sim fm s g w) (hF : FrameRep fm g s.n nt A a.tmps) (hok : okOpd fm x y = true)
    (h : base size A s x = some (cs, k, A1, s1)) : s1.n = s.n ∧ ∃ g1, Sim fm s1 g1 w ∧ le s.n g g1 ∧ Kept g g1 w w ∧ FrameRep fm g1 s.n nt A1 a.tmps ∧
      ((a.eval y = .slice none 0 0 ∧ cs = [] ∧ k = 0) ∨ Rep fm g1 s.n (.sl cs k .exact) (a.eval y) ∨ SlotRep fm g1 s.n .res (.sl cs k (.mine size)) (a.eval y)) := by
  cases x with
  | fn i => simp [base] at h
  | val v =>
    cases v <;> simp [base] at h
    obtain ⟨rfl, rfl, rfl, rfl⟩ := h
    cases y <;> simp [okOpd] at hok
    have := litOk_rep fm g s.n hok
    rename_i cv
    refine ⟨rfl, g, hS, le.refl _ _, Kept.refl _ _, hF, .inl ⟨?_, rfl, rfl⟩⟩
    show cv = _
    cases this
    rfl
  | tmp d =>
    cases y <;> simp [okOpd] at hok
    subst hok
    simp only [base] at h
    have hev : ∀ cv, a.tmps[d]? = some cv → a.eval (.tmp d) = cv := fun cv h1 => by
      have hlt : d < a.tmps.size := (Array.getElem?_eq_some_iff.1 h1).1
      simp [Act.eval, Array.getD, hlt, (Array.getElem?_eq_some_iff.1 h1).2]
    split at h
    · rename_i hg
      cases h
      obtain ⟨cv, h1, h2⟩ := hF.2 d (by rw [hg]; simp)
      rw [hg] at h2
      refine ⟨rfl, g, hS, le.refl _ _, Kept.refl _ _, hF, .inl ⟨?_, rfl, rfl⟩⟩
      rw [hev cv h1]
      cases h2
      rfl
    · rename_i ds m hg
      cases h
      obtain ⟨cv, h1, h2⟩ := hF.2 d (by rw [hg]; simp)
      rw [hg] at h2
      exact ⟨rfl, g, hS, le.refl _ _, Kept.refl _ _, hF, .inr (.inl (by rw [hev cv h1]; exact h2))⟩
    · rename_i ds m z hg
      split at h
      · rename_i hz
        subst hz
        cases h
        obtain ⟨g1, q1, q2, q3, q4, q5, _⟩ := taken_sound (x := .tmp d) (y := .tmp d) (v := .sl cs k (.mine z)) (A' := A.put d (.sl cs k .none)) hS hF (by simp [okOpd]) (by simp [Opd.taken, hg])
        exact ⟨rfl, g1, q1, q2, q3, q4, .inr (.inr q5)⟩
      · cases h
    · rename_i ds m r c hg
      split at h
      · rename_i os hr
        split at h
        · rename_i es m' z hc
          split at h
          · rename_i hz
            obtain ⟨hl, rfl⟩ := hz
            cases h
            obtain ⟨cv, h1, h2⟩ := hF.2 d (by rw [hg]; simp)
            rw [hg] at h2
            obtain ⟨f1, f2, ⟨b, hob⟩, hd, kk, f3, f4, f5⟩ := h2
            -- the object lies in memory, for the mark speaks of a cell of it
            have hrlt := ASt.get_lt hr
            obtain ⟨ca, el, hw, hsz, hcells⟩ := hS.objs r _ hr b hob
            obtain ⟨v, hv, hcr⟩ := hcells c _ hc
            have hvec : g.vec r c = some (v, es.length) := by
              obtain ⟨_, _, _, _, _, _, _, _, _, _, _, e8⟩ := hcr
              exact e8
            rw [hvec] at f3
            cases f3
            have hcv := f5 (by omega)
            subst hcv
            obtain ⟨g1, q1, q2, q3, q4, q5⟩ := move_out hS hF hr hc hob ⟨ca, el, hw, hv⟩
            refine ⟨rfl, g1, q1, q2, q3, q4, .inr (.inr ?_)⟩
            rw [hev cv h1]
            -- the abstract cells are those of the copy
            obtain ⟨b2, base2, cap, vs, e1, e2, e3, e4, e5, e6, e7⟩ := q5
            have h3 := f1.mono q2 (Nat.le_refl _)
            cases h3 with
            | sl0 ad cap3 =>
              cases e1
              exact ⟨b2, base2, cap, [], rfl, Nat.zero_le _, .nil, List.nil_prefix, by simp only [List.length_nil] at *; omega, e6, e7⟩
            | sl _ _ _ b3 base3 cap3 vs3 ho hc3 hR3 hp3 =>
            cases e1
            exact ⟨b2, base2, cap, vs3, rfl, hc3, hR3, hp3, by omega, e6, e7⟩
          · cases h
        · cases h
      · cases h
    · cases h

end
end Go.Proofs.YtdhgdpokdhjanaaGreat.Abs
/- append, the instruction. -/
namespace Go.Proofs.YtdhgdpokdhjanaaGreat.Abs
open Go

section
variable {P : Program} {fm : Nat → Nat} {g g' : Gh} {s s' : ASt} {n n' nt : Nat} {A A1 A' : Frame} {a : Act} {w w' : World}

theorem Sim.heap (hS : Sim fm s g w) (h : w'.heap = w.heap) : Sim fm s g w' where
  size := hS.size
  objs := fun r o hr b hb => (hS.objs r o hr b hb).mono (le.refl _ _) (fun _ _ _ => ⟨rfl, rfl, rfl⟩) (fun _ => rfl) (by rw [h]) (fun _ e => ⟨e, rfl, by rw [h]⟩)
  objn := fun r b hb => by rw [h]; exact hS.objn r b hb
  st := fun b hb => by rw [h]; exact hS.st b hb
  mst := fun b ks vs hb => by rw [h]; exact hS.mst b ks vs hb
  fresh := fun b hb => hS.fresh b (by rw [← h]; exact hb)

def Gh.newRow (g : Gh) (b : Nat) (vs : List Value) (total : Nat) : Gh :=
  { g with st := fun x => if x = b then vs else g.st x, sz := fun x => if x = b then total else g.sz x, own := fun x => if x = b then .res else g.own x }

/-- A new row, with places behind what is steady. -/
theorem newRow_sound {vs rest : List Value} {elem : Nat} (hS : Sim fm s g w) (hF : FrameRep fm g s.n nt A a.tmps) :
    let g' := g.newRow w.heap.size vs (vs ++ rest).length
    let w' := w.alloc (.cells (vs ++ rest).toArray elem)
    Sim fm s g' w' ∧ le s.n g g' ∧ Kept g g' w w' ∧ FrameRep fm g' s.n nt A a.tmps := by
  intro g' w'
  obtain ⟨f1, f2, f3⟩ := hS.fresh w.heap.size (Nat.le_refl _)
  have hle : le s.n g g' := ⟨fun _ _ _ h => h, fun x => by
      by_cases e : x = w.heap.size
      · subst e; rw [f2]; exact List.nil_prefix
      · show g.st x <+: if x = w.heap.size then vs else g.st x
        rw [if_neg e]; exact List.prefix_refl _, fun _ _ h => h, fun _ _ _ h k e => ⟨h, k, e, Nat.le_refl _, fun _ => rfl⟩⟩
  have hne : ∀ b, b ≠ w.heap.size → Fix g g' b := fun b hb => ⟨by simp [g', Gh.newRow, hb], by simp [g', Gh.newRow, hb], by simp [g', Gh.newRow, hb]⟩
  have hown : ∀ b t, g.own b = t → t ≠ .free → b ≠ w.heap.size := fun b t hb ht e => ht (by rw [← hb, e, f1])
  refine ⟨?_, hle, ?_, hF.keep hle (Nat.le_refl _) (fun b d hb => hne b (hown b _ hb (by simp)))⟩
  · refine hS.step (· = w.heap.size) hS.size hle (Nat.le_refl _)
      (fun b hb => ⟨hne b hb, rfl, by rw [alloc_get, if_neg hb]⟩) (fun b h1 h2 => by rw [World.size_alloc] at h2; omega) (by rw [World.size_alloc]; omega) ?_ ?_ ?_ ?_ ?_ (fun b hb q e => by subst hb; rw [f1] at e; cases e)
    · intro r o' hr
      left
      refine ⟨hr, rfl, fun b hb e2 => ?_, fun c => rfl, fun b c hb => hown b _ hb (by simp)⟩
      obtain ⟨_, _, h3, _⟩ := hS.objn r b hb
      omega
    · intro r b hb
      left
      obtain ⟨_, _, h3, _⟩ := hS.objn r b hb
      exact ⟨hb, by omega⟩
    · intro b hb h
      subst hb
      exact ⟨_, elem, (0, 0), by rw [alloc_get, if_pos rfl], by simp [g', Gh.newRow], by simp [g', Gh.newRow], fun _ => rfl⟩
    · intro b hb ks us h
      subst hb
      have : g.mst w.heap.size = some (ks, us) := h
      rw [f3] at this
      cases this
    · intro b hb h
      subst hb
      rw [World.size_alloc] at h
      omega
  · refine ⟨?_, rfl, rfl, fun _ _ _ => rfl⟩
    intro b q hb
    have := hown b _ hb (by simp)
    exact ⟨hne b this, by rw [alloc_get, if_neg this]⟩

def Gh.longer (g : Gh) (b : Nat) (vs : List Value) : Gh := { g with st := fun x => if x = b then g.st x ++ vs else g.st x }

/-- More becomes steady of a row that an instruction's value owns. -/
theorem longer_sound {b : Nat} {cur : Array Value} {elem : Nat} {news : List Value} (hS : Sim fm s g w) (hF : FrameRep fm g s.n nt A a.tmps) (hb : g.own b = .res)
    (hw : w.heap[b]? = some (.cells cur elem (0, 0))) (hfit : (g.st b).length + news.length ≤ cur.size) :
    let g' := g.longer b news
    let w' := w.setRow b (cur.toList.take (g.st b).length ++ news ++ cur.toList.drop ((g.st b).length + news.length)).toArray
    Sim fm s g' w' ∧ le s.n g g' ∧ Kept g g' w w' ∧ FrameRep fm g' s.n nt A a.tmps := by
  intro g' w'
  have hget : ∀ k, w'.heap[k]? = if k = b then some (.cells (cur.toList.take (g.st b).length ++ news ++ cur.toList.drop ((g.st b).length + news.length)).toArray elem (0, 0)) else w.heap[k]? := fun k => setRow_get w hw k
  have hle : le s.n g g' := ⟨fun _ _ _ h => h, fun x => by
      by_cases e : x = b
      · subst e
        show g.st x <+: if x = x then g.st x ++ news else g.st x
        rw [if_pos rfl]; exact List.prefix_append _ _
      · show g.st x <+: if x = b then g.st x ++ news else g.st x
        rw [if_neg e]; exact List.prefix_refl _, fun _ _ h => h, fun _ _ _ h k e => ⟨h, k, e, Nat.le_refl _, fun _ => rfl⟩⟩
  have hne : ∀ x, x ≠ b → Fix g g' x := fun x hx => ⟨rfl, by simp [g', Gh.longer, hx], rfl⟩
  have hown : ∀ x t, g.own x = t → t ≠ .res → x ≠ b := fun x t hx ht e => ht (by rw [← hx, e, hb])
  obtain ⟨c, el, fr, q1, q2, q3, q4⟩ := hS.st b (.inr (by rw [hb]; rfl))
  rw [hw] at q1
  cases q1
  refine ⟨?_, hle, ?_, hF.keep hle (Nat.le_refl _) (fun x d hx => hne x (hown x _ hx (by simp)))⟩
  · refine hS.step (· = b) hS.size hle (Nat.le_refl _)
      (fun x hx => ⟨hne x hx, rfl, by rw [hget, if_neg hx]⟩) (fun x h1 h2 => by rw [setRow_size] at h2; omega) (by rw [setRow_size]; omega) ?_ ?_ ?_ ?_ ?_ (fun x hx q e => by rw [hx, hb] at e; cases e)
    · intro r o' hr
      left
      refine ⟨hr, rfl, fun x hx e2 => ?_, fun c => rfl, fun x c hx => hown x _ hx (by simp)⟩
      obtain ⟨_, h2, _⟩ := hS.objn r x hx
      subst e2
      rw [hb] at h2
      cases h2
    · intro r x hx
      left
      refine ⟨hx, fun e2 => ?_⟩
      obtain ⟨_, h2, _⟩ := hS.objn r x hx
      subst e2
      rw [hb] at h2
      cases h2
    · intro x hx h
      subst hx
      refine ⟨_, elem, (0, 0), by rw [hget, if_pos rfl], ?_, ?_, fun _ => rfl⟩
      · have : cur.toList.take (g.st x).length = g.st x := by
          obtain ⟨t, ht⟩ := q2
          rw [← ht]
          simp
        rw [this]
        show (if x = x then g.st x ++ news else g.st x) <+: _
        rw [if_pos rfl]
        exact List.prefix_append _ _
      · simp only [List.size_toArray, List.length_append, List.length_take, List.length_drop, Array.length_toList]
        show _ = g.sz x
        rw [← q3]
        omega
    · intro x hx ks us h
      subst hx
      obtain ⟨es, clock, e1, _⟩ := hS.mst x ks us h
      rw [hw] at e1
      cases e1
    · intro x hx h
      subst hx
      rw [setRow_size] at h
      obtain ⟨e1, _⟩ := hS.fresh x h
      rw [hb] at e1
      cases e1
  · refine ⟨?_, rfl, rfl, fun _ _ _ => rfl⟩
    intro x q hx
    have := hown x _ hx (by simp)
    exact ⟨hne x this, by rw [hget, if_neg this]⟩

theorem first_zero {size : Nat} {cy : Value} {y : AVal} {new : List AVal} (hy : Rep fm g n y cy) (h : newCells y = some (new, 0)) : ∃ k, (Builtin.lenOf cy).run P w = .ok 0 w ∧ (Builtin.firstCells size 0 cy).run P w = .ok k w ∧ k = #[] := by
  cases y <;> simp only [newCells] at h <;> try (cases h; done)
  case nils =>
    cases hy
    exact ⟨_, by simp [Builtin.lenOf], by simp [Builtin.firstCells], rfl⟩
  case str l =>
    simp only [Option.some.injEq, Prod.mk.injEq] at h
    have hl : l = [] := List.length_eq_zero_iff.1 h.2
    subst hl
    rw [hy.str_inv]
    refine ⟨#[], by simp [Builtin.lenOf, ByteArray.size], ?_, rfl⟩
    simp only [Builtin.firstCells, Sem.run_pure]
    congr 1
    apply Array.ext'
    simp [ByteArray.data_extract]
  case sl cs len o =>
    simp only [Option.some.injEq, Prod.mk.injEq] at h
    obtain ⟨_, rfl⟩ := h
    cases hy
    · exact ⟨_, by simp [Builtin.lenOf], by simp [Builtin.firstCells, loadCells, loadCellsFrom], rfl⟩
    · exact ⟨_, by simp [Builtin.lenOf], by simp [Builtin.firstCells, loadCells, loadCellsFrom], rfl⟩

theorem run_append_zero {t u ty e len cap : Nat} {i : TypeInfo} {d : TypeDesc} {x : Value} {base : Option Addr} (ht : P.underlying t = some (.slice e)) (hu : P.underlying u = some d) (hd : notInt d = true)
    (hi : P.info? e = some i) (hl : (Builtin.lenOf x).run P w = .ok 0 w) (hf : (Builtin.firstCells i.size 0 x).run P w = .ok #[] w) (hc : len ≤ cap) :
    (Builtin.append_ #[t, u] ty #[.slice base len cap, x]).run P w = .ok (.slice base len cap) w := by
  have hc' : len + 0 ≤ cap := hc
  have hst : ∀ b, (storeCells b #[].toList).run P w = .ok () w := fun b => by simp [storeCells]
  cases d with
  | int _ => cases hd
  | _ =>
    cases base <;>
    simp only [Builtin.append_, List.getElem?_toArray, List.getElem?_cons_zero, List.getElem?_cons_succ, Sem.run_bind, run_underlying ht, run_underlying hu, Result.andThen_ok, sizeOf, run_typeInfo hi, Sem.run_pure,
      Bool.false_eq_true, if_false, Bool.not_false, if_true, hl, if_pos hc', hf, hst] <;> rfl

theorem append_sound {x y : Opd} {x' y' : Operand} {t u ty e size : Nat} {i : TypeInfo} {d : TypeDesc} {z : Value} {v : AVal} (hS : Sim fm s g w) (hF : FrameRep fm g s.n nt A a.tmps)
    (hx : okOpd fm x x' = true) (hy : okOpd fm y y' = true) (ht : P.underlying t = some (.slice e)) (hu : P.underlying u = some d) (hd : notInt d = true) (hi : P.info? e = some i)
    (hsz : i.size = size) (hs0 : size ≠ 0) (hb : i.bytes ≤ 128) (hz : i.zero = some z) (hzs : z.cells.size = size)
    (h : aappend size A s x y = some (v, A', s')) : ∃ cv w' g', (Builtin.append_ #[t, u] ty #[a.eval x', a.eval y']).run P w = .ok cv w' ∧ Post fm nt g w s s' A' a.tmps v cv g' w' := by
  subst hsz
  unfold aappend at h
  obtain ⟨⟨new, k⟩, hnew, h⟩ := bind_some' h
  have hyr := okOpd_rep hF hy
  simp only at h
  split at h
  · -- nothing is appended
    rename_i hk
    subst hk
    obtain ⟨k0, hl0, hf0, rfl⟩ := first_zero (P := P) (size := i.size) (w := w) hyr hnew
    generalize htk : x.taken A = q at h
    obtain ⟨v0, A0⟩ := q
    obtain ⟨g1, q1, q2, q3, q4, q5, q6, q7, q8⟩ := taken_sound hS hF hx htk
    have key : ∀ base len cap, a.eval x' = .slice base len cap → len ≤ cap → (Builtin.append_ #[t, u] ty #[a.eval x', a.eval y']).run P w = .ok (a.eval x') w := by
      intro base len cap he hc
      rw [he]
      exact run_append_zero ht hu hd hi hl0 hf0 hc
    cases v0 <;> simp only [reduceCtorEq] at h
    case nils =>
      cases h
      have hr : Rep fm g1 s.n .nils (a.eval x') := q5
      refine ⟨a.eval x', w, g1, ?_, q1, q2, Nat.le_refl _, q3, q4, q5⟩
      generalize hv : a.eval x' = cx at hr
      cases hr
      rw [← hv]
      exact key none 0 0 hv (Nat.le_refl _)
    case sl cs len o =>
      cases h
      refine ⟨a.eval x', w, g1, ?_, q1, q2, Nat.le_refl _, q3, q4, q5⟩
      have hr := q5.strip
      have : ∃ o', (AVal.sl cs len o).strip = .sl cs len o' := by cases o <;> exact ⟨_, rfl⟩
      obtain ⟨o', ho'⟩ := this
      rw [ho'] at hr
      generalize hv : a.eval x' = cx at hr
      cases hr with
      | sl0 ad cap =>
        rw [← hv]
        exact key _ _ _ hv (Nat.zero_le _)
      | sl _ _ _ b base cap vs ho hc hR hp =>
      rw [← hv]
      exact key _ _ _ hv hc
  · rename_i hk
    obtain ⟨⟨cs, m, A1, s1⟩, hbase, h⟩ := bind_some' h
    simp only at h
    split at h
    · rename_i hc
      obtain ⟨hlim, hcl, hnl, hone⟩ := hc
      cases h
      obtain ⟨hn1, g1, q1, q2, q3, q4, q5⟩ := base_sound hS hF hx hbase
      have hyr1 := hyr.mono q2 (Nat.le_refl _)
      rw [← hn1] at hyr1
      obtain ⟨news, hlen, hfst, hnR⟩ := new_run (P := P) (w := w) (d := d) (t := t) (e := e) q1 hyr1 hnew hnl
      rw [hn1] at hnR
      have hnln : news.length = k * i.size := by rw [← hnR.length]; exact hnl
      have hone' : ∀ v ∈ news, v.oneCell' = true := by
        intro v hv
        obtain ⟨j, hj, rfl⟩ := List.mem_iff_getElem.1 hv
        have hj2 : j < new.length := by rw [hnR.length]; exact hj
        obtain ⟨u, hu1, hu2⟩ := hnR.get j new[j] (by simp [hj2])
        have : u = news[j] := by
          rw [List.getElem?_eq_getElem hj] at hu1
          exact (Option.some.inj hu1).symm
        rw [← this]
        exact one_cell hu2 (List.all_eq_true.1 hone _ (List.getElem_mem hj2))
      -- a new row
      have out : ∀ (base : Option Addr) (sCap : Nat) (olds : List Value), a.eval x' = .slice base m sCap → RepL fm g1 s.n cs olds →
          (∀ wx : World, wx.heap = w.heap → (Builtin.firstCells i.size m (.slice base m sCap)).run P wx = .ok olds.toArray wx) → sCap < m + k →
          ∃ cv w' g', (Builtin.append_ #[t, u] ty #[a.eval x', a.eval y']).run P w = .ok cv w' ∧ Post fm nt g w s s' A' a.tmps (.sl (cs ++ new) (m + k) (.mine i.size)) cv g' w' := by
        intro base sCap olds he hRo hfo hgrow
        have hrun := run_append_out (ty := ty) (x := a.eval y') ht hu hd hi hz hlen (hfst w.drew rfl) (hfo w.drew rfl) hlim hb hgrow
        rw [← he] at hrun
        generalize hcap : grownCap w (m + k) sCap e = cap at hrun
        have hcap' : m + k ≤ cap := by rw [← hcap]; exact grownCap_ge w _ _ _
        have hq1 : Sim fm s' g1 w.drew := q1.heap rfl
        have hol : olds.length = m * i.size := by rw [← hRo.length]; exact hcl
        obtain ⟨p1, p2, p3, p4⟩ := newRow_sound (nt := nt) (vs := olds ++ news) (rest := (Builtin.zeroCells z.cells (cap - (m + k))).toList) (elem := e) hq1 (by rw [hn1]; exact q4)
        have hsize : w.drew.heap.size = w.heap.size := rfl
        rw [hsize] at p1 p2 p3 p4
        rw [hn1] at p2 p4
        refine ⟨_, _, _, hrun, p1, q2.trans p2, by omega, ?_, by rw [hn1]; exact p4, ?_⟩
        · refine ⟨?_, p3.os.trans q3.os, p3.out.trans q3.out, fun x q hx => (p3.mst x q (by rw [(q3.blk x q hx).1.1, hx])).trans (q3.mst x q hx)⟩
          intro b q hb
          obtain ⟨e1, e2⟩ := q3 b q hb
          obtain ⟨e3, e4⟩ := p3 b q (by rw [e1.1, hb])
          exact ⟨e1.trans e3, e4⟩
        · rw [hn1]
          refine ⟨w.heap.size, 0, cap, olds ++ news, rfl, hcap', (hRo.append hnR).mono p2 (Nat.le_refl _), by simp [Gh.newRow], ?_, ?_, by simp [Gh.newRow]⟩
          · simp [Gh.newRow, hol, hnln, hcl, hnl]
          · simp only [Gh.newRow, if_true, List.length_append, Array.length_toList, size_zeroCells, hol, hnln, hzs, Nat.zero_add]
            rw [← Nat.add_mul, ← Nat.add_mul]
            exact Nat.mul_le_mul_right _ (by omega)
      rcases q5 with ⟨e1, rfl, rfl⟩ | hr | hr
      · exact out none 0 [] e1 .nil (fun wx _ => by simp [Builtin.firstCells]) (by omega)
      · generalize hv : a.eval x' = cx at hr
        cases hr with
        | sl _ _ _ b base cap vs ho hc hR hp =>
        rcases ho with ho | ⟨_, rfl⟩
        · cases ho
        · refine hv ▸ out (some ⟨b, base, none⟩) cap vs hv hR (fun wx hwx => ?_) (by omega)
          have := run_loadCells_list (P := P) (w := wx) ⟨b, base, none⟩ vs (fun j v hj => by
            rw [add_mk]
            have := q1.cell hp hj
            simpa [World.cell?, hwx] using this)
          simp only [Builtin.firstCells]
          rw [← hcl, hR.length]
          exact this
      · obtain ⟨b, base, cap, vs, e1, e2, e3, e4, e5, e6, e7⟩ := hr
        have hvl : vs.length = m * i.size := by rw [← e3.length]; exact hcl
        by_cases hroom : m + k ≤ cap
        · -- in place
          obtain ⟨cur, el, fr, r1, r2, r3, r4⟩ := q1.st b (.inr (by rw [e7]; rfl))
          have hfr := r4 (by rw [e7]; rfl)
          subst hfr
          have hstl : (g1.st b).length = base + m * i.size := by rw [← e5, hcl]
          have hfit : (g1.st b).length + news.length ≤ cur.size := by
            rw [hstl, hnln, r3, Nat.add_assoc, ← Nat.add_mul]
            exact Nat.le_trans (Nat.add_le_add_left (Nat.mul_le_mul_right _ hroom) _) e6
          have hrun := run_append_in (ty := ty) (x := a.eval y') (b := b) (off := base) (sLen := m) (sCap := cap) ht hu hd hi hlen (hfst w rfl) r1 hone' hroom (by rw [← hstl]; exact hfit)
          rw [← e1, ← hstl] at hrun
          obtain ⟨p1, p2, p3, p4⟩ := longer_sound (nt := nt) (news := news) q1 (by rw [hn1]; exact q4) e7 r1 hfit
          rw [hn1] at p2 p4
          refine ⟨_, _, _, hrun, p1, q2.trans p2, by omega, ?_, by rw [hn1]; exact p4, ?_⟩
          · refine ⟨?_, p3.os.trans q3.os, p3.out.trans q3.out, fun x q hx => (p3.mst x q (by rw [(q3.blk x q hx).1.1, hx])).trans (q3.mst x q hx)⟩
            intro x q hx
            obtain ⟨f1, f2⟩ := q3 x q hx
            obtain ⟨f3, f4⟩ := p3 x q (by rw [f1.1, hx])
            exact ⟨f1.trans f3, f4⟩
          · rw [hn1]
            refine ⟨b, base, cap, vs ++ news, rfl, hroom, (e3.append hnR).mono p2 (Nat.le_refl _), ?_, ?_, e6, e7⟩
            · simp only [Gh.longer, if_true]
              have : g1.st b = (g1.st b).take base ++ vs := by
                obtain ⟨tl, htl⟩ := e4
                have hln := congrArg List.length htl
                simp only [List.length_append, List.length_drop] at hln
                have : tl = [] := List.length_eq_zero_iff.1 (by omega)
                rw [this, List.append_nil] at htl
                rw [htl]
                exact (List.take_append_drop base (g1.st b)).symm
              rw [List.drop_append_of_le_length (by omega)]
              have h2 : (g1.st b).drop base = vs := by
                have h3 := congrArg (List.drop base) this
                rw [List.drop_append_of_le_length (by simp; omega)] at h3
                rw [h3]
                simp
              rw [h2]
              exact List.prefix_refl _
            · simp only [Gh.longer, if_true, List.length_append]
              rw [hstl, hnln, hcl, hnl]
              omega
        · refine out (some ⟨b, base, none⟩) cap vs e1 e3 (fun wx hwx => ?_) (by omega)
          have := run_loadCells_list (P := P) (w := wx) ⟨b, base, none⟩ vs (fun j v hj => by
            rw [add_mk]
            have := q1.cell e4 hj
            simpa [World.cell?, hwx] using this)
          simp only [Builtin.firstCells]
          rw [← hcl, e3.length]
          exact this
    · cases h

end
end Go.Proofs.YtdhgdpokdhjanaaGreat.Abs
/- Entries of maps. -/
namespace Go.Proofs.YtdhgdpokdhjanaaGreat.Abs
open Go

section
variable {P : Program} {fm : Nat → Nat} {g g' : Gh} {s s' : ASt} {n n' nt : Nat} {A A1 A' : Frame} {a : Act} {w w' : World}

theorem sameBits_of {kt : KT} {m : Nat} {x y : AVal} {cx cy : Value} (hx : Rep fm g n x cx) (hy : Rep fm g n y cy) (h : keq kt x y = some true) : Instr.sameBits m cy cx = true := by
  cases kt <;> cases x <;> cases y <;> simp only [keq] at h <;> try (cases h; done)
  · rw [hx.int_inv, hy.int_inv]
    split at h
    · rename_i e
      subst e
      simp at h
      subst h
      cases m <;> simp [Instr.sameBits]
    · cases h
  · rw [hx.str_inv, hy.str_inv]
    simp at h
    subst h
    cases m <;> simp [Instr.sameBits, beq_toListBytes]
  · rw [hx.bool_inv, hy.bool_inv]
    simp at h
    subst h
    cases m <;> simp [Instr.sameBits]

theorem insert_find {kt : KT} {d : TypeDesc} {k v : AVal} {ck cv : Value} (hd : descOk kt d = true) (hk : Rep fm g n k ck) (hv : Rep fm g n v cv) : ∀ (es : List MapEntry) (i : Nat) (ks vs ks' vs' : List AVal),
    RepL fm g n ks (es.map (·.key)) → RepL fm g n vs (es.map (·.val)) → insertAt kt k v ks vs = some (ks', vs') →
    (∃ j e, Instr.findNow d ck es i = some (some (i + j, e.val)) ∧ es[j]? = some e ∧ Instr.sameBits 10000 e.key ck = true ∧
        RepL fm g n ks' ((List.modify es j fun e : MapEntry => { e with key := ck, val := cv }).map (·.key)) ∧ RepL fm g n vs' ((List.modify es j fun e : MapEntry => { e with key := ck, val := cv }).map (·.val))) ∨
      (Instr.findNow d ck es i = some none ∧ ∀ born, RepL fm g n ks' ((es ++ [({ key := ck, val := cv, born := born } : MapEntry)]).map (·.key)) ∧ RepL fm g n vs' ((es ++ [({ key := ck, val := cv, born := born } : MapEntry)]).map (·.val)))
  | [], i, ks, vs, ks', vs', h1, h2, h => by
    cases h1
    cases h2
    simp only [insertAt, Option.some.injEq, Prod.mk.injEq] at h
    obtain ⟨rfl, rfl⟩ := h
    exact .inr ⟨rfl, fun born => ⟨.cons _ _ _ _ hk .nil, .cons _ _ _ _ hv .nil⟩⟩
  | e :: es, i, ks, vs, ks', vs', h1, h2, h => by
    cases h1 with
    | cons x _ ks _ hx hks =>
    cases h2 with
    | cons y _ vs _ hy hvs =>
    simp only [insertAt] at h
    split at h
    · rename_i hq
      cases h
      left
      exact ⟨0, e, by simp [Instr.findNow, keq_run hd hk hx hq], rfl, sameBits_of hk hx hq, .cons _ _ _ _ hk hks, .cons _ _ _ _ hv hvs⟩
    · rename_i hq
      obtain ⟨⟨a, b⟩, hab, h⟩ := map_some' h
      cases h
      rcases insert_find hd hk hv es (i + 1) ks vs a b hks hvs hab with ⟨j, e', f1, f2, f3, f4, f5⟩ | ⟨f1, f2⟩
      · left
        refine ⟨j + 1, e', ?_, by simpa using f2, f3, ?_, ?_⟩
        · simp only [Instr.findNow, keq_run hd hk hx hq, f1]
          congr 3
          omega
        · exact .cons _ _ _ _ hx f4
        · exact .cons _ _ _ _ hy f5
      · right
        refine ⟨by simp only [Instr.findNow, keq_run hd hk hx hq, f1], fun born => ?_⟩
        obtain ⟨q1, q2⟩ := f2 born
        exact ⟨.cons _ _ _ _ hx q1, .cons _ _ _ _ hy q2⟩
    · cases h

theorem insert_sound {kt : KT} {t r : Nat} {k v : AVal} {cm ck cv : Value} {ks vs ks' vs' : List AVal} (hS : Sim fm s g w) (hF : FrameRep fm g s.n nt A a.tmps) (hm : Rep fm g s.n (.map r) cm)
    (hk : Rep fm g s.n k ck) (hv : Rep fm g s.n v cv) (hkt : keyOk P t kt = true) (hr : s.get r = some (.map ks vs)) (hi : insertAt kt k v ks vs = some (ks', vs'))
    (hu : (k.under (r + 1) && v.under (r + 1)) = true) :
    ∃ w', (Instr.mapUpdate t cm ck cv).run P w = .ok () w' ∧ Post fm nt g w s (s.set r (.map ks' vs')) A a.tmps .undef undef g w' := by
  obtain ⟨key, e, d, hut, hud, hd⟩ := keyOk_some hkt
  simp only [Bool.and_eq_true] at hu
  cases hm with
  | map _ b hlt hb =>
  obtain ⟨es, clock, h1, h2, h3⟩ := hS.objs r _ hr b hb
  obtain ⟨o1, o2, o3, o4, o5⟩ := hS.objn r b hb
  have hgo : (getObj b).run P w = .ok (.map es clock) w := by simp [getObj, Sem.run, h1]
  have hch : (Instr.checkKey false 10000 key ck).run P w = .ok () w := checkKey_run 9999 hd hud
  have hset : ∀ o, (setObj b o).run P w = .ok () { w with heap := w.heap.setIfInBounds b o } := fun o => by simp [setObj, Sem.run, h1]
  have hget : ∀ o x, ({ w with heap := w.heap.setIfInBounds b o } : World).heap[x]? = if x = b then some o else w.heap[x]? := by
    intro o x
    simp only [Array.getElem?_setIfInBounds]
    by_cases e : x = b
    · subst e; simp [o3]
    · simp [e, Ne.symm e]
  have done : ∀ (es' : Array MapEntry) (clock' : Nat), RepL fm g (r + 1) ks' (es'.toList.map (·.key)) → RepL fm g (r + 1) vs' (es'.toList.map (·.val)) →
      Post fm nt g w s (s.set r (.map ks' vs')) A a.tmps .undef undef g { w with heap := w.heap.setIfInBounds b (.map es' clock') } := by
    intro es' clock' hk' hv'
    refine ⟨?_, le.refl _ _, Nat.le_refl _, ⟨fun x q hx => ⟨⟨rfl, rfl, rfl⟩, ?_⟩, rfl, rfl, fun _ _ _ => rfl⟩, hF, .undef _⟩
    · refine hS.step (· = b) (by simp [ASt.set, setL_length, hS.size]) (le.refl _ _) (Nat.le_refl _) (fun x hx => ⟨⟨rfl, rfl, rfl⟩, rfl, by rw [hget, if_neg hx]⟩)
        (fun x h1 h2 => by simp at h2; omega) (by simp) ?_ ?_ ?_ ?_ ?_ (fun x hx q e => by rw [hx, o2] at e; cases e)
      · intro q o hq
        by_cases e : q = r
        · subst e
          rw [ASt.get_set_same hr] at hq
          cases hq
          right
          intro b' hb'
          rw [hb] at hb'
          cases hb'
          exact ⟨es', clock', by rw [hget, if_pos rfl], hk', hv'⟩
        · rw [ASt.get_set_other e] at hq
          left
          refine ⟨hq, rfl, fun b' hb' e2 => ?_, fun _ => rfl, fun b' c' hb' e2 => ?_⟩
          · subst e2
            obtain ⟨_, q2, _⟩ := hS.objn q b' hb'
            rw [o2] at q2
            cases q2
            exact e rfl
          · subst e2
            rw [o2] at hb'
            cases hb'
      · intro q b' hb'
        by_cases e : b' = b
        · right
          subst e
          obtain ⟨q1, q2, q3, q4, q5⟩ := hS.objn q b' hb'
          exact ⟨q1, q2, by simpa using q3, q4, q5⟩
        · exact .inl ⟨hb', e⟩
      · intro x hx h
        subst hx
        rcases h with h | h
        · exact absurd o4 h
        · rw [o2] at h; simp [Tag.held] at h
      · intro x hx ks us h
        subst hx
        rw [o5] at h
        cases h
      · intro x hx h
        subst hx
        simp at h
        omega
    · have : x ≠ b := fun e => by rw [e, o2] at hx; cases hx
      rw [hget, if_neg this]
  rcases insert_find hd (hk.lower hu.1) (hv.lower hu.2) es.toList 0 ks vs ks' vs' h2 h3 hi with ⟨j, e0, f1, f2, f3, f4, f5⟩ | ⟨f1, f2⟩
  · rw [Nat.zero_add] at f1
    have hfind : (Instr.findKey key ck es.toList).run P w = .ok (some (j, e0.val)) w := by
      simp only [Instr.findKey, Sem.run_bind, run_underlying hud, Result.andThen_ok, f1, Sem.run_pure]
    have hkey : (Instr.keyThatStays (((es[j]?).map (·.key)).getD ck) ck).run P w = .ok ck w := by
      have : es[j]? = some e0 := by simpa using f2
      simp [this, Instr.keyThatStays, f3]
    refine ⟨_, ?_, done (Array.modify es j fun e : MapEntry => { e with key := ck, val := cv }) clock ?_ ?_⟩
    · simp only [Instr.mapUpdate, Sem.run_bind, run_underlying hut, Result.andThen_ok, hgo, hch, hfind, hkey, hset]
    · rw [Array.toList_modify]; exact f4
    · rw [Array.toList_modify]; exact f5
  · have hfind : (Instr.findKey key ck es.toList).run P w = .ok none w := by
      simp only [Instr.findKey, Sem.run_bind, run_underlying hud, Result.andThen_ok, f1, Sem.run_pure]
    obtain ⟨q1, q2⟩ := f2 clock
    refine ⟨_, ?_, done (es.push { key := ck, val := cv, born := clock }) (clock + 1) ?_ ?_⟩
    · simp only [Instr.mapUpdate, Sem.run_bind, run_underlying hut, Result.andThen_ok, hgo, hch, hfind, hset]
    · rw [Array.toList_push]; exact q1
    · rw [Array.toList_push]; exact q2

def Gh.newPart (g : Gh) (b : Nat) (vs : List Value) (total : Nat) : Gh := { g with st := fun x => if x = b then vs else g.st x, sz := fun x => if x = b then total else g.sz x }

theorem bytes_get (w : World) (e : Nat) (l : ByteArray) (k : Nat) : (Lib.bytesWorld w e l).heap[k]? = if k = w.heap.size then some (.cells (Lib.bytesCells w e l) e ((Lib.bytesCells w e l).size, (Lib.bytesCells w e l).size + 1)) else w.heap[k]? := by
  by_cases h : k = w.heap.size
  · subst h
    rw [if_pos rfl, Lib.bytesWorld_at_new]
  · rw [if_neg h]
    rcases Nat.lt_or_ge k w.heap.size with h1 | h1
    · exact Lib.bytesWorld_at_old w e l k h1
    · rw [Array.getElem?_eq_none h1, Array.getElem?_eq_none (by rw [Lib.bytesWorld_size]; omega)]

/-- The row that a string's bytes are laid in: they stay. -/
theorem newBytes_sound {e : Nat} {l : ByteArray} (hS : Sim fm s g w) (hF : FrameRep fm g s.n nt A a.tmps) {vs : List Value} (hv : vs = l.data.toList.map fun b => Value.int .u8 b.toNat) {g' : Gh} (hg : g' = g.newPart w.heap.size vs (Lib.bytesCells w e l).size) :
    Sim fm s g' (Lib.bytesWorld w e l) ∧ le s.n g g' ∧ Kept g g' w (Lib.bytesWorld w e l) ∧ FrameRep fm g' s.n nt A a.tmps ∧ g'.st w.heap.size = vs := by
  obtain ⟨f1, f2, f3⟩ := hS.fresh w.heap.size (Nat.le_refl _)
  have hle : le s.n g g' := ⟨fun _ _ _ h => by rw [hg]; exact h, fun x => by
      rw [hg]
      by_cases e : x = w.heap.size
      · subst e; rw [f2]; exact List.nil_prefix
      · simp [Gh.newPart, e], fun _ _ h => by rw [hg]; exact h, fun _ _ _ h k e => ⟨h, k, by rw [hg]; exact e, Nat.le_refl _, fun _ => rfl⟩⟩
  have hne : ∀ b, b ≠ w.heap.size → Fix g g' b := fun b hb => ⟨by rw [hg]; rfl, by simp [hg, Gh.newPart, hb], by simp [hg, Gh.newPart, hb]⟩
  have hown : ∀ b t, g.own b = t → t ≠ .free → b ≠ w.heap.size := fun b t hb ht e => ht (by rw [← hb, e, f1])
  have hobj : g'.obj = g.obj := by rw [hg]; rfl
  have hmst : g'.mst = g.mst := by rw [hg]; rfl
  have hvec : g'.vec = g.vec := by rw [hg]; rfl
  have hst0 : g'.st w.heap.size = vs := by simp [hg, Gh.newPart]
  refine ⟨?_, hle, ?_, hF.keep hle (Nat.le_refl _) (fun b d hb => hne b (hown b _ hb (by simp))), hst0⟩
  · refine hS.step (· = w.heap.size) hS.size hle (Nat.le_refl _)
      (fun b hb => ⟨hne b hb, by rw [hmst], by rw [bytes_get, if_neg hb]⟩) (fun b h1 h2 => by rw [Lib.bytesWorld_size] at h2; omega) (by rw [Lib.bytesWorld_size]; omega) ?_ ?_ ?_ ?_ ?_ (fun b hb q e => by subst hb; rw [f1] at e; cases e)
    · intro r o' hr
      left
      refine ⟨hr, by rw [hobj], fun b hb e2 => ?_, fun c => by rw [hvec], fun b c hb => hown b _ hb (by simp)⟩
      obtain ⟨_, _, h3, _⟩ := hS.objn r b hb
      omega
    · intro r b hb
      left
      rw [hobj] at hb
      obtain ⟨_, _, h3, _⟩ := hS.objn r b hb
      exact ⟨hb, by omega⟩
    · intro b hb h
      subst hb
      refine ⟨Lib.bytesCells w e l, e, _, by rw [bytes_get, if_pos rfl], ?_, by simp [hg, Gh.newPart], fun hh => ?_⟩
      · rw [hst0, hv]
        simp [Lib.bytesCells]
      · rw [hg] at hh
        have hh : (g.own w.heap.size).held = true := hh
        rw [f1] at hh
        simp [Tag.held] at hh
    · intro b hb ks us h
      subst hb
      rw [hmst, f3] at h
      cases h
    · intro b hb h
      subst hb
      rw [Lib.bytesWorld_size] at h
      omega
  · refine ⟨?_, ?_, ?_, fun _ _ _ => by rw [hmst]⟩
    · intro b q hb
      have := hown b _ hb (by simp)
      exact ⟨hne b this, by rw [bytes_get, if_neg this]⟩
    · simp [Lib.bytesWorld, World.freeze, World.alloc, World.drew, -World.alloc_eq, -World.drew_eq]
    · simp [Lib.bytesWorld, World.freeze, World.alloc, World.drew, -World.alloc_eq, -World.drew_eq]

theorem byteCells_rep (g : Gh) (n : Nat) : ∀ l : List UInt8, RepL fm g n (byteCells l) (l.map fun b => Value.int .u8 b.toNat)
  | [] => .nil
  | b :: l => .cons _ _ _ _ (.int .u8 b.toNat) (byteCells_rep g n l)

end
end Go.Proofs.YtdhgdpokdhjanaaGreat.Abs
