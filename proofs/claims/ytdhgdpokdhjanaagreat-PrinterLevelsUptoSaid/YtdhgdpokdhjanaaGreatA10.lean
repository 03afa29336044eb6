/- All operations that only compute, in one theorem. -/
import Derived.Test.YtdhgdpokdhjanaaGreatA9
set_option linter.unusedSimpArgs false
set_option linter.unusedVariables false
namespace Go.Proofs.YtdhgdpokdhjanaaGreat.Abs
open Go

def AOp.isPure : AOp → Bool
  | .mov _ | .pick _ _ _ | .build _ _ | .load _ _ _ | .bin _ _ _ _ | .un _ _ | .fieldAddr _ _ | .field _ _ _ _ | .indexAddr _ _ _ | .index _ _ | .slice _ _ _ _ _ | .lookup _ _ _ _ _
  | .extract _ _ | .nilCheck _ | .makeFunc _ _ _ | .len _ _ | .minmax _ _ _ => true
  | .conv (.int _) _ | .conv .same _ => true
  | _ => false

section
variable {P : Program} {fm : Nat → Nat} {g : Gh} {s : ASt} {n nt : Nat} {A A' : Frame} {a : Act} {w : World}

theorem run_v {x : Sem Value} {cv : Value} (h : x.run P w = .ok cv w) : (do pure (Next.value (← x)) : Sem Next).run P w = .ok (.value cv) w := by
  simp only [Sem.run_bind, h, Result.andThen_ok, Sem.run_pure]

theorem pure_sound {call : CallFn} {ao : AOp} {o : Oper} {v : AVal} {s' : ASt} (hF : FrameRep fm g s.n nt A a.tmps) (hS : Sim fm s g w) (hok : okOp P fm ao o.op = true) (hp : ao.isPure = true)
    (h : aop call ao A s = some (v, A', s')) : A' = A ∧ s' = s ∧ ∃ cv, (execOp a.eval o).run P w = .ok (.value cv) w ∧ SlotRep fm g s.n .res v cv := by
  obtain ⟨dst, op, ty, pos, after, gd⟩ := o
  simp only at hok
  cases ao <;> simp only [AOp.isPure, Bool.false_eq_true] at hp <;> simp only [aop] at h
  case mov x =>
    cases h
    refine ⟨rfl, rfl, ?_⟩
    cases op <;> simp only [okOp, Bool.false_eq_true] at hok
    · exact ⟨_, rfl, (okOpd_rep hF hok).slot⟩
    · exact ⟨_, rfl, (okOpd_rep hF hok).slot⟩
  case pick c x y =>
    cases op <;> simp only [okOp, Bool.false_eq_true, Bool.and_eq_true] at hok
    obtain ⟨⟨h1, h2⟩, h3⟩ := hok
    have r1 := okOpd_rep hF h1
    split at h
    · rename_i e
      cases h
      rw [e] at r1
      exact ⟨rfl, rfl, _, by simp [execOp, r1.bool_inv, asBool], (okOpd_rep hF h2).slot⟩
    · rename_i e
      cases h
      rw [e] at r1
      exact ⟨rfl, rfl, _, by simp [execOp, r1.bool_inv, asBool], (okOpd_rep hF h3).slot⟩
    · cases h
  case build zero parts =>
    cases op <;> simp only [okOp, Bool.false_eq_true] at hok
    obtain ⟨r, hr, h⟩ := bind_some' h
    cases h
    split at hok
    · rename_i fs hu
      simp only [Bool.and_eq_true] at hok
      obtain ⟨cv, h1, h2⟩ := build_run (w := w) hF hu hok.1.1 hok.1.2 hok.2 hr
      exact ⟨rfl, rfl, cv, run_v h1, h2.slot⟩
    · cases hok
  case load k agg x =>
    cases op <;> simp only [okOp, Bool.false_eq_true, Bool.and_eq_true] at hok
    obtain ⟨r, hr, h⟩ := bind_some' h
    cases h
    obtain ⟨cv, h1, h2⟩ := load_run (tg := .res) hS (okOpd_rep hF hok.1.1) hok.1.2 hok.2 hr
    exact ⟨rfl, rfl, cv, run_v h1, h2⟩
  case bin bop ty x y =>
    cases op <;> simp only [okOp, Bool.false_eq_true, Bool.and_eq_true, beq_iff_eq] at hok
    obtain ⟨r, hr, h⟩ := bind_some' h
    cases h
    obtain ⟨⟨⟨rfl, ht⟩, hx⟩, hy⟩ := hok
    obtain ⟨cv, h1, h2⟩ := bin_run (P := P) (w := w) (okOpd_rep hF hx) (okOpd_rep hF hy) ht hr
    exact ⟨rfl, rfl, cv, run_v h1, h2.slot⟩
  case un uop x =>
    cases op <;> simp only [okOp, Bool.false_eq_true, Bool.and_eq_true, beq_iff_eq] at hok
    obtain ⟨r, hr, h⟩ := bind_some' h
    cases h
    obtain ⟨rfl, hx⟩ := hok
    obtain ⟨cv, h1, h2⟩ := un_run (t := 0) (P := P) (w := w) (okOpd_rep hF hx) hr
    exact ⟨rfl, rfl, cv, run_v h1, h2.slot⟩
  case conv k x =>
    cases op <;> simp only [okOp, Bool.false_eq_true, Bool.and_eq_true, beq_iff_eq] at hok
    obtain ⟨r, hr, h⟩ := bind_some' h
    cases h
    obtain ⟨hc, hx⟩ := hok
    have hk : k = .same ∨ ∃ j, k = .int j := by
      cases k
      case int j => exact .inr ⟨j, rfl⟩
      case same => exact .inl rfl
      all_goals simp [AOp.isPure] at hp
    obtain ⟨cv, h1, h2⟩ := conv_run (P := P) (w := w) (okOpd_rep hF hx) hk hc hr
    exact ⟨rfl, rfl, cv, run_v h1, h2.slot⟩
  case fieldAddr off x =>
    cases op <;> simp only [okOp, Bool.false_eq_true, Bool.and_eq_true] at hok
    rename_i t y i
    obtain ⟨hx, hf⟩ := hok
    have hr := okOpd_rep hF hx
    split at hf
    · rename_i fs hu
      split at hf
      · rename_i f hfi
        simp only [Bool.and_eq_true, beq_iff_eq] at hf
        obtain ⟨rfl, hj⟩ := hf
        split at hj
        · rename_i j hji
          have hj0 : j.size ≠ 0 := by simpa using hj
          have key : ∀ ad : Addr, a.eval y = .pointer (some ad) → (execOp a.eval { dst := dst, op := .fieldAddr t y i, type := ty, pos := pos, after := after, guard := gd }).run P w = .ok (.value (.pointer (some (ad.add f.offset)))) w := by
            intro ad he
            apply run_v
            simp only [Instr.fieldAt, Sem.run_bind, run_underlying hu, Result.andThen_ok, hfi, he, Instr.sureAddr, Sem.run_pure, fieldPlace, sizeOf, run_typeInfo hji, if_neg hj0]
          cases hxa : x.ev A <;> rw [hxa] at h hr <;> simp only at h <;> try (cases h; done)
          case ref r o =>
            cases h
            generalize hv : a.eval y = cx at hr
            cases hr with
            | ref _ _ b hlt hb => exact ⟨rfl, rfl, _, key _ hv, by rw [add_mk]; exact .ref _ _ _ hlt hb⟩
          case ipt cs o =>
            cases h
            generalize hv : a.eval y = cx at hr
            cases hr with
            | ipt _ _ b base vs hR hpp => exact ⟨rfl, rfl, _, key _ hv, by rw [add_mk, Nat.add_assoc]; exact .ipt _ _ _ _ _ hR hpp⟩
        · cases hj
      · cases hf
    · cases hf
  case field off k agg x =>
    cases op <;> simp only [okOp, Bool.false_eq_true, Bool.and_eq_true] at hok
    rename_i t y i
    obtain ⟨hx, hf⟩ := hok
    have hr := okOpd_rep hF hx
    split at hf
    · rename_i fs hu
      split at hf
      · rename_i f hfi
        simp only [Bool.and_eq_true, beq_iff_eq] at hf
        obtain ⟨⟨rfl, ha⟩, hz⟩ := hf
        split at h
        · rename_i cs he
          rw [he] at hr
          obtain ⟨l, hl, h⟩ := bind_some' h
          obtain ⟨u, hu2, h⟩ := bind_some' h
          cases h
          generalize hv : a.eval y = cx at hr
          cases hr with
          | agg _ vs hcs =>
          obtain ⟨cv, h1, h2⟩ := part_run (P := P) (w := w) (off := f.offset) hcs ha hz (by rw [hl]; exact hu2)
          refine ⟨rfl, rfl, cv, run_v ?_, h2.slot⟩
          simp only [Instr.field, Sem.run_bind, run_underlying hu, Result.andThen_ok, hfi, hv, asAgg, Sem.run_pure, h1]
        · cases h
      · cases hf
    · cases hf
  case indexAddr size x i =>
    cases op <;> simp only [okOp, Bool.false_eq_true, Bool.and_eq_true] at hok
    rename_i t y j
    obtain ⟨⟨hx, hi⟩, hu⟩ := hok
    have hr := okOpd_rep hF hx
    have hri := okOpd_rep hF hi
    split at hu
    · rename_i e hut
      have hz := hu
      split at h
      · rename_i cs len ow kk ii e1 e2
        rw [e1] at hr
        rw [e2] at hri
        split at h
        · rename_i hb
          cases h
          generalize hv : a.eval y = cx at hr
          cases hr with
          | sl0 ad cap => omega
          | sl _ _ _ b base cap vs ho hc hR hpp =>
          refine ⟨rfl, rfl, .pointer (some ⟨b, base + ii.toNat * size, none⟩), run_v ?_, .ipt _ _ _ _ _ hR hpp⟩
          simp only [Instr.indexAt, Sem.run_bind, hri.int_inv, asIntOf_run, Result.andThen_ok, run_underlying hut, hv, Sem.run_pure]
          rw [if_pos (by exact ⟨hb.1, by exact_mod_cast hb.2⟩)]
          simp only [Sem.run_bind, run_sizeOf hz, Result.andThen_ok, Sem.run_pure, add_mk]
        · cases h
      · cases h
    · cases hu
  case index x i =>
    cases op <;> simp only [okOp, Bool.false_eq_true, Bool.and_eq_true] at hok
    rename_i t y j
    obtain ⟨⟨hx, hi⟩, hu⟩ := hok
    have hr := okOpd_rep hF hx
    have hri := okOpd_rep hF hi
    split at hu
    · rename_i hut
      split at h
      · rename_i l kk ii e1 e2
        rw [e1] at hr
        rw [e2] at hri
        split at h
        · rename_i hb
          obtain ⟨b, hbb, h⟩ := bind_some' h
          cases h
          refine ⟨rfl, rfl, .int .u8 b.toNat, run_v ?_, .int _ _⟩
          have hget : (ByteArray.mk l.toArray)[ii.toNat]? = some b := by
            obtain ⟨h1, h2⟩ := List.getElem?_eq_some_iff.1 hbb
            have hs : ii.toNat < (ByteArray.mk l.toArray).size := by simpa [ByteArray.size] using h1
            rw [getElem?_pos (ByteArray.mk l.toArray) ii.toNat hs]
            exact congrArg some h2
          simp only [Instr.index, Sem.run_bind, hri.int_inv, asIntOf_run, Result.andThen_ok, run_underlying hut, hr.str_inv, if_pos hb, hget, Sem.run_pure]
        · cases h
      · cases h
    · cases hu
  case slice str size x lo hi =>
    cases op with
    | slice t y lo' hi' mx =>
      cases mx <;> simp only [okOp, Bool.false_eq_true, Bool.and_eq_true] at hok
      obtain ⟨⟨⟨hx, hl⟩, hh⟩, ht⟩ := hok
      obtain ⟨r, hr, h⟩ := bind_some' h
      cases h
      obtain ⟨cv, h1, h2⟩ := slice_run (P := P) (w := w) hF (okOpd_rep hF hx) hl hh ht hr
      exact ⟨rfl, rfl, cv, run_v h1, h2.slot⟩
    | _ => simp [okOp] at hok
  case lookup kt zero ok m k =>
    cases op <;> simp only [okOp, Bool.false_eq_true, Bool.and_eq_true, beq_iff_eq] at hok
    obtain ⟨⟨⟨⟨rfl, hkt⟩, hm⟩, hk⟩, hz⟩ := hok
    obtain ⟨⟨ks, vs⟩, he, h⟩ := bind_some' h
    obtain ⟨r, hr, h⟩ := bind_some' h
    cases h
    obtain ⟨cv, h1, h2⟩ := lookup_run hS (okOpd_rep hF hm) (okOpd_rep hF hk) hkt hz he hr
    exact ⟨rfl, rfl, cv, run_v h1, h2.slot⟩
  case extract x i =>
    cases op <;> simp only [okOp, Bool.false_eq_true, Bool.and_eq_true, beq_iff_eq] at hok
    rename_i y j
    obtain ⟨hx, rfl⟩ := hok
    have hr := okOpd_rep hF hx
    split at h
    · rename_i vs e
      rw [e] at hr
      obtain ⟨u, hu, h⟩ := bind_some' h
      cases h
      generalize hv : a.eval y = cx at hr
      cases hr with
      | tup _ cvs hR =>
      obtain ⟨cv, h1, h2⟩ := hR.get i _ hu
      refine ⟨rfl, rfl, cv, run_v ?_, h2.slot⟩
      simp only [Instr.extract, hv]
      simp [h1]
    · cases h
  case nilCheck x =>
    cases op <;> simp only [okOp, Bool.false_eq_true] at hok
    rename_i y
    have hr := okOpd_rep hF hok
    cases hxa : x.ev A <;> rw [hxa] at h hr <;> simp only at h <;> try (cases h; done)
    all_goals
      cases h
      generalize hv : a.eval y = cx at hr
      cases hr
      all_goals
        refine ⟨rfl, rfl, _, by simp only [execOp, hv]; rfl, ?_⟩
        constructor <;> assumption
  case makeFunc f first captured =>
    cases op with
    | makeFunc fn first' captured' =>
      cases fn with
      | func k =>
        simp only [okOp, Bool.and_eq_true, beq_iff_eq] at hok
        cases h
        obtain ⟨⟨⟨rfl, h1⟩, h2⟩, h3⟩ := hok
        refine ⟨rfl, rfl, _, run_v (by simp [Instr.makeFunc]; rfl), ?_⟩
        have := Rep.fn (fm := fm) (g := g) (n := s.n) f _ _ _ _ (makeFn_args hF h1) (makeFn_args hF h2) (of_decide_eq_true h3)
        simp only [Array.toArray_toList] at this
        exact this
      | _ => simp [okOp] at hok
    | _ => simp [okOp] at hok
  case len str x =>
    cases op with
    | call c =>
      obtain ⟨callee, args', ts⟩ := c
      cases callee with
      | builtin b =>
        cases b with
        | len =>
          simp only [okOp] at hok
          split at hok
          · rename_i y t e1 e2
            simp only [Bool.and_eq_true] at hok
            obtain ⟨hx, ht⟩ := hok
            have hr := okOpd_rep hF hx
            have ea : args' = #[y] := by apply Array.ext'; simpa using e1
            have et : ts = #[t] := by apply Array.ext'; simpa using e2
            subst ea
            subst et
            have key : ∀ k, (Builtin.len_ #[t] ty #[a.eval y]).run P w = .ok (goInt k) w →
                (execOp a.eval { dst := dst, op := .call { callee := .builtin .len, args := #[y], argTypes := #[t] }, type := ty, pos := pos, after := after, guard := gd }).run P w = .ok (.value (.int .i64 k)) w := by
              intro k hk
              simp only [execOp, resolve, Sem.run_bind, Sem.run_pure, Result.andThen_ok, invoke, builtin]
              simp only [List.map_toArray, List.map_cons, List.map_nil, hk, Sem.run_bind, Result.andThen_ok, Sem.run_pure]
              rfl
            cases str with
            | true =>
              have hu : P.underlying t = some .string := by
                split at ht
                · assumption
                · cases ht
                · cases ht
              cases hxa : x.ev A <;> rw [hxa] at h hr <;> simp only at h <;> try (cases h; done)
              cases h
              rename_i l
              refine ⟨rfl, rfl, _, key l.length ?_, .int _ _⟩
              rw [hr.str_inv]
              have hs : (ByteArray.mk l.toArray).size = l.length := by simp [ByteArray.size]
              simp [Builtin.len_, run_underlying hu, hs]
            | false =>
              have hu : ∃ e, P.underlying t = some (.slice e) := by
                split at ht
                · cases ht
                · exact ⟨_, by assumption⟩
                · cases ht
              obtain ⟨e, hu⟩ := hu
              cases hxa : x.ev A <;> rw [hxa] at h hr <;> simp only at h <;> try (cases h; done)
              case nils =>
                cases h
                refine ⟨rfl, rfl, _, key 0 ?_, .int _ _⟩
                generalize hv : a.eval y = cx at hr
                cases hr
                simp [Builtin.len_, run_underlying hu]
              case sl cs len o =>
                cases h
                refine ⟨rfl, rfl, _, key len ?_, .int _ _⟩
                generalize hv : a.eval y = cx at hr
                cases hr <;> simp [Builtin.len_, run_underlying hu]
          · cases hok
        | _ => simp [okOp] at hok
      | _ => simp [okOp] at hok
    | _ => simp [okOp] at hok
  case minmax mx x y =>
    cases op with
    | call c =>
      obtain ⟨callee, args', ts⟩ := c
      cases callee with
      | builtin b =>
        have hok' : ∃ bb : Bool, (bb = true → (b = .max ∧ mx = true) ∨ (b = .min ∧ mx = false)) ∧ (match args'.toList with
          | [x', y'] => okOpd fm x x' && okOpd fm y y' && bb
          | _ => false) = true := by
          refine ⟨(match b with | .max => mx | .min => !mx | _ => false), ?_, ?_⟩
          · intro hb
            cases b <;> simp at hb
            · exact .inl ⟨rfl, hb⟩
            · exact .inr ⟨rfl, hb⟩
          · cases b <;> exact hok
        clear hok
        obtain ⟨bb, hbb, hok'⟩ := hok'
        split at hok'
        · rename_i x' y' e1
          simp only [Bool.and_eq_true] at hok'
          obtain ⟨⟨hx, hy⟩, hb⟩ := hok'
          have hb := hbb hb
          have ea : args' = #[x', y'] := by apply Array.ext'; simpa using e1
          subst ea
          have hrx := okOpd_rep hF hx
          have hry := okOpd_rep hF hy
          split at h
          case h_2 => cases h
          rename_i k i j l hxa hya
          rw [hxa] at hrx
          rw [hya] at hry
          split at h
          · rename_i e
            subst e
            cases h
            rcases hb with ⟨rfl, rfl⟩ | ⟨rfl, rfl⟩
            · refine ⟨rfl, rfl, _, ?_, .int _ _⟩
              simp only [execOp, resolve, Sem.run_bind, Sem.run_pure, Result.andThen_ok, invoke, builtin]
              simp [hrx.int_inv, hry.int_inv, Builtin.max_, Builtin.max2]
            · refine ⟨rfl, rfl, _, ?_, .int _ _⟩
              simp only [execOp, resolve, Sem.run_bind, Sem.run_pure, Result.andThen_ok, invoke, builtin]
              simp [hrx.int_inv, hry.int_inv, Builtin.min_, Builtin.min2]
          · cases h
        · cases hok'
      | _ => simp [okOp] at hok
    | _ => simp [okOp] at hok
end
end Go.Proofs.YtdhgdpokdhjanaaGreat.Abs
