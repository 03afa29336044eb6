/- Every instruction. -/
import Derived.Test.YtdhgdpokdhjanaaGreatMA10
import Derived.OrdersIn
set_option linter.unusedSimpArgs false
set_option linter.unusedVariables false
namespace Go.Proofs.YtdhgdpokdhjanaaGreat.Abs
open Go

/-- The machine runs alone; perhaps in a round of a loop over a function. -/
def FW (r : Option Nat) : Fence := { fn := fun _ => True, depth := none, alive := false, round := r }

def Tag.mine? : Tag → Bool
  | .slot _ => true
  | .other h => h
  | _ => false

structure SameBut (g g' : Gh) : Prop where
  obj : g'.obj = g.obj
  st : g'.st = g.st
  mst : g'.mst = g.mst
  vec : g'.vec = g.vec
  sz : g'.sz = g.sz

def Enters (P : Program) (f : Nat) : Prop := f < 1000000 ∧ ∃ fn, P.funcs[f]? = some fn ∧ fn.body.isNone = false ∧ (fn.name == "runtime.NumGoroutine") = false

def CallPost (fm : Nat → Nat) (g : Gh) (w : World) (s s' : ASt) (v : AVal) (e : Ending) (w' : World) : Prop :=
  ∃ cv g', e = .returned cv ∧ Sim fm s' g' w' ∧ le s.n g g' ∧ s.n ≤ s'.n ∧ Kept g g' w w' ∧ SlotRep fm g' s'.n .res v cv

def CallSound (P : Program) (fm : Nat → Nat) (call : CallFn) : Prop :=
  ∀ f args s v s', call f args s = some (v, s') → Enters P (fm f) ∧ ∀ (g : Gh) (w : World) (vs : Array Value) (m : Nat), Sim fm s g w → RepL fm g s.n args vs.toList →
    CallsIn (FW none) m P (fm f) vs w (CallPost fm g w s s' v)

section
variable {P : Program} {fm : Nat → Nat} {g g' : Gh} {s s' : ASt} {n n' nt : Nat} {A A1 A' : Frame} {a : Act} {w w' : World}

theorem SameBut.le (h : SameBut g g') (n : Nat) : le n g g' :=
  ⟨fun r _ b e => by rw [h.obj]; exact e, fun b => by rw [h.st]; exact List.prefix_refl _, fun b x e => by rw [h.mst]; exact e, fun r _ c x k e => ⟨x, k, by rw [h.vec]; exact e, Nat.le_refl _, fun _ => rfl⟩⟩

theorem Sim.sameBut (hS : Sim fm s g w) (h : SameBut g g') (ho : ∀ b, g'.own b = g.own b ∨ ((g.own b).mine? = true ∧ (g'.own b).mine? = true)) : Sim fm s g' w := by
  have own_of : ∀ b t, g.own b = t → t.mine? = false → g'.own b = t := fun b t hb ht => by
    rcases ho b with h1 | ⟨h1, _⟩
    · rw [h1, hb]
    · rw [hb, ht] at h1; cases h1
  have held : ∀ b, (g'.own b).held = true → (g.own b).held = true := fun b hb => by
    rcases ho b with h1 | ⟨h1, _⟩
    · rw [← h1]; exact hb
    · cases hx : g.own b <;> simp [hx, Tag.mine?] at h1 <;> simp [Tag.held, h1]
  refine ⟨hS.size, ?_, ?_, ?_, ?_, ?_⟩
  · intro r o hr b hb
    rw [h.obj] at hb
    exact (hS.objs r o hr b hb).mono (h.le _) (fun x c hx => ⟨by rw [own_of x _ hx rfl, hx], by rw [h.st], by rw [h.sz]⟩) (fun c => by rw [h.vec]) rfl (fun x hx => ⟨own_of x _ hx rfl, by rw [h.st], rfl⟩)
  · intro r b hb
    rw [h.obj] at hb
    obtain ⟨e1, e2, e3, e4, e5⟩ := hS.objn r b hb
    exact ⟨e1, own_of b _ e2 rfl, e3, by rw [h.st]; exact e4, by rw [h.mst]; exact e5⟩
  · intro b hb
    rw [h.st] at hb ⊢
    obtain ⟨c, elem, fr, e1, e2, e3, e4⟩ := hS.st b (hb.imp id (held b))
    exact ⟨c, elem, fr, e1, e2, by rw [h.sz]; exact e3, fun x => e4 (held b x)⟩
  · intro b ks vs hb
    rw [h.mst] at hb
    exact hS.mst b ks vs hb
  · intro b hb
    obtain ⟨e1, e2, e3⟩ := hS.fresh b hb
    exact ⟨own_of b _ e1 rfl, by rw [h.st]; exact e2, by rw [h.mst]; exact e3⟩

/-- What the caller's frame owns is another's, for the callee. -/
def Gh.hide (g : Gh) : Gh := { g with own := fun b => match g.own b with | .slot _ => .other true | t => t }
def Gh.unhide (g g' : Gh) : Gh := { g' with own := fun b => match g.own b with | .slot d => .slot d | _ => g'.own b }

theorem hide_same : SameBut g g.hide := ⟨rfl, rfl, rfl, rfl, rfl⟩
theorem Sim.hide (hS : Sim fm s g w) : Sim fm s g.hide w := hS.sameBut hide_same (fun b => by
  simp only [Gh.hide]
  cases g.own b <;> simp [Tag.mine?])

/-! ### A call that sees no object at all -/

def Tag.away : Tag → Tag
  | .free => .free
  | .res => .res
  | .other h => .other h
  | .obj _ | .buf _ => .other false
  | _ => .other true
def Tag.gone : Tag → Bool
  | .free | .res => true
  | _ => false
def Gh.away (g : Gh) : Gh := { obj := fun _ => none, own := fun b => (g.own b).away, st := g.st, mst := g.mst, vec := fun _ _ => none, sz := g.sz }
def Gh.back (g g' : Gh) : Gh := { obj := g.obj, own := fun b => if (g.own b).gone = true then g'.own b else g.own b, st := g'.st, mst := g'.mst, vec := g.vec, sz := g'.sz }

theorem away_held (t : Tag) : t.away.held = t.held := by cases t <;> rfl
theorem away_kept {t : Tag} (h : t.gone = false) : ∃ x, t.away = .other x := by
  cases t <;> simp [Tag.gone] at h <;> exact ⟨_, rfl⟩

theorem Sim.away (hS : Sim fm s g w) : Sim fm ⟨0, []⟩ g.away w where
  size := rfl
  objs := fun r o h => by simp [ASt.get, getL] at h
  objn := fun r b h => by simp [Gh.away] at h
  st := fun b h => by
    have h : g.st b ≠ [] ∨ (g.own b).away.held = true := h
    rw [away_held] at h
    obtain ⟨c, elem, fr, h1, h2, h3, h4⟩ := hS.st b h
    exact ⟨c, elem, fr, h1, h2, h3, fun hh => h4 (by rw [← away_held]; exact hh)⟩
  mst := hS.mst
  fresh := fun b h => by
    obtain ⟨h1, h2, h3⟩ := hS.fresh b h
    exact ⟨by simp [Gh.away, h1, Tag.away], h2, h3⟩

theorem away_le (n : Nat) : le 0 g g.away := ⟨fun _ h => by omega, fun _ => List.prefix_refl _, fun _ _ h => h, fun _ h => by omega⟩

theorem back_sound {s1 : ASt} {g1 : Gh} {w1 : World} (hS : Sim fm s g w) (hS1 : Sim fm s1 g1 w1) (hle : le 0 g.away g1) (hK : Kept g.away g1 w w1) :
    Sim fm s (g.back g1) w1 ∧ le s.n g (g.back g1) ∧ Kept g (g.back g1) w w1 ∧ (∀ b, (g.own b).gone = false → Fix g (g.back g1) b ∧ w1.heap[b]? = w.heap[b]?) ∧ le 0 g1 (g.back g1) ∧
      ∀ b, g1.own b = .res → Fix g1 (g.back g1) b := by
  have kept : ∀ b, (g.own b).gone = false → Fix g (g.back g1) b ∧ w1.heap[b]? = w.heap[b]? ∧ g1.mst b = g.mst b ∧ g1.own b = (g.own b).away := by
    intro b hb
    obtain ⟨x, hx⟩ := away_kept hb
    obtain ⟨⟨e1, e2, e3⟩, e4⟩ := hK.blk b x hx
    refine ⟨⟨by simp [Gh.back, hb], e2, e3⟩, e4, hK.mst b x hx, e1⟩
  have hle' : le s.n g (g.back g1) := ⟨fun _ _ _ h => h, hle.st, hle.mst, fun _ _ _ h k e => ⟨h, k, e, Nat.le_refl _, fun _ => rfl⟩⟩
  refine ⟨⟨hS.size, ?_, ?_, ?_, hS1.mst, ?_⟩, hle', ⟨fun b x hb => ?_, hK.os, hK.out, fun b x hb => ?_⟩, fun b hb => ⟨(kept b hb).1, (kept b hb).2.1⟩, ⟨fun _ h => by omega, fun _ => List.prefix_refl _, fun _ _ h => h, fun _ h => by omega⟩, ?_⟩
  · intro r o hr b hb
    have hb : g.obj r = some b := hb
    obtain ⟨e1, e2, e3, e4, e5⟩ := hS.objn r b hb
    refine (hS.objs r o hr b hb).mono (hle'.less (by omega)) (fun x c hx => (kept x (by rw [hx]; rfl)).1) (fun _ => rfl) (kept b (by rw [e2]; rfl)).2.1 (fun x hx => ?_)
    have := kept x (by rw [hx]; rfl)
    exact ⟨by rw [this.1.1, hx], this.1.2.1, this.2.1⟩
  · intro r b hb
    have hb : g.obj r = some b := hb
    obtain ⟨e1, e2, e3, e4, e5⟩ := hS.objn r b hb
    obtain ⟨⟨f1, f2, f3⟩, f4, f5, f6⟩ := kept b (by rw [e2]; rfl)
    refine ⟨e1, by rw [f1, e2], ?_, by rw [f2, e4], by rw [show (g.back g1).mst b = g1.mst b from rfl, f5, e5]⟩
    rcases Nat.lt_or_ge b w1.heap.size with h | h
    · exact h
    · rw [Array.getElem?_eq_none h] at f4
      rw [Array.getElem?_eq_getElem e3] at f4
      cases f4
  · intro b hb
    have hb : g1.st b ≠ [] ∨ (if (g.own b).gone = true then g1.own b else g.own b).held = true := hb
    have hown : (if (g.own b).gone = true then g1.own b else g.own b).held = (g1.own b).held := by
      by_cases h : (g.own b).gone = true
      · rw [if_pos h]
      · rw [if_neg h, (kept b (by simpa using h)).2.2.2, away_held]
    rw [hown] at hb
    obtain ⟨c, elem, fr, h1, h2, h3, h4⟩ := hS1.st b hb
    exact ⟨c, elem, fr, h1, h2, h3, fun hh => h4 (by rw [← hown]; exact hh)⟩
  · intro b hb
    obtain ⟨h1, h2, h3⟩ := hS1.fresh b hb
    refine ⟨?_, h2, h3⟩
    show (if (g.own b).gone = true then g1.own b else g.own b) = .free
    by_cases h : (g.own b).gone = true
    · rw [if_pos h, h1]
    · have hk := kept b (by simpa using h)
      rw [if_neg h]
      have h4 := hk.2.2.2
      rw [h1] at h4
      cases hg : g.own b <;> rw [hg] at h4 <;> first | rfl | (simp [Tag.away] at h4)
  · obtain ⟨f1, f2, f3, f4⟩ := kept b (by rw [hb]; rfl)
    exact ⟨f1, f2⟩
  · exact (kept b (by rw [hb]; rfl)).2.2.1
  · intro b hb
    refine ⟨?_, rfl, rfl⟩
    show (if (g.own b).gone = true then g1.own b else g.own b) = g1.own b
    by_cases h : (g.own b).gone = true
    · rw [if_pos h]
    · have hk := (kept b (by simpa using h)).2.2.2
      obtain ⟨x, hx⟩ := away_kept (t := g.own b) (by simpa using h)
      rw [hk, hx] at hb
      cases hb

theorem range_add' (a b : Nat) : List.range (a + b) = List.range a ++ (List.range b).map (a + ·) := by
  induction b with
  | zero => simp
  | succ b ih => rw [← Nat.add_assoc, List.range_succ, ih, List.range_succ]; simp

theorem zeros_rep {zero : List AVal} {zs : Array Value} (hz : RepL fm g n zero zs.toList) (h0 : zs.size ≠ 0) : ∀ len : Nat, RepL fm g n (zeros zero len) ((List.range (len * zs.size)).map fun i => zs[i % zs.size]!)
  | 0 => by simpa [zeros] using RepL.nil
  | len + 1 => by
    show RepL fm g n (zero ++ zeros zero len) _
    rw [Nat.add_mul, Nat.one_mul, Nat.add_comm (len * zs.size), range_add', List.map_append]
    have e1 : (List.range zs.size).map (fun i => zs[i % zs.size]!) = zs.toList := by
      apply List.ext_getElem
      · simp
      · intro i h1 h2
        have : i < zs.size := by simpa using h1
        simp [Nat.mod_eq_of_lt this, this]
    rw [e1]
    refine hz.append ?_
    rw [List.map_map]
    have e2 : ((fun i => zs[i % zs.size]!) ∘ fun x => zs.size + x) = fun i => zs[i % zs.size]! := by
      funext i
      simp
    rw [e2]
    exact zeros_rep hz h0 len

theorem Rep.strip_id {x : AVal} {v : Value} (h : Rep fm g n x v) : x.strip = x := by
  cases h
  case sl ho _ _ _ => rcases ho with rfl | ⟨rfl, _⟩ <;> rfl
  all_goals rfl

theorem RepL.strip_id : ∀ {cs : List AVal} {vs : List Value}, RepL fm g n cs vs → cs.map AVal.strip = cs
  | _, _, .nil => rfl
  | _, _, .cons _ _ _ _ h t => by simp [h.strip_id, RepL.strip_id t]

theorem strip_strip (x : AVal) : x.strip.strip = x.strip := by
  cases x <;> try rfl
  case sl cs l o => cases o <;> rfl

theorem taken_id {x : Opd} {y : Operand} {v : AVal} (hok : okOpd fm x y = true) (h : x.taken A = (v, A')) : (∃ cs l z, v = .sl cs l (.mine z)) ∨ v.strip = v := by
  cases x with
  | val c =>
    simp only [Opd.taken] at h
    cases h
    cases y <;> simp [okOpd] at hok
    exact .inr (litOk_rep fm default 0 hok).strip_id
  | fn i =>
    simp only [Opd.taken] at h
    cases h
    exact .inr rfl
  | tmp d =>
    simp only [Opd.taken] at h
    split at h
    · cases h
      exact .inl ⟨_, _, _, rfl⟩
    · cases h
      exact .inr (strip_strip _)

theorem run_call {f : Opd} {fo : Operand} {args : List Opd} {cargs : Array Operand} {i : Nat} {first captured : List AVal} {ty : Nat} {ts : Array Nat} (hF : FrameRep fm g s.n nt A a.tmps) (hf : okOpd fm f fo = true)
    (ha : okOpds fm args cargs.toList = true) (he : f.ev A = .fn i first captured) (hen : Enters P (fm i)) :
    ∃ vs : Array Value, RepL fm g s.n (first ++ args.map (·.ev A) ++ captured) vs.toList ∧
      (do let d ← resolve a.eval { callee := .value fo, args := cargs, argTypes := ts } ty; invoke d.target d.args).run P w = .ok (.enter (fm i) vs) w := by
  have h1 := okOpd_rep hF hf
  rw [he] at h1
  generalize hv : a.eval fo = cf at h1
  obtain ⟨hen0, fn, e1, e2, e3⟩ := hen
  cases h1 with
  | yld _ l hf => omega
  | fn _ _ _ us vs h1 h2 hf0 =>
  refine ⟨us.toArray ++ cargs.map a.eval ++ vs.toArray, ?_, ?_⟩
  · simp only [Array.toList_append]
    exact (h1.append (makeFn_args hF ha)).append h2
  · simp only [resolve, hv, Sem.run_bind, Deferred.ofValue, Sem.run_pure, Result.andThen_ok, invoke, callFunc, run_program, e1, e3, Bool.false_eq_true, if_false, e2]

/-- The instruction's operation, once it is known what it runs to. -/
theorem wpIn_value {r : Option Nat} {m : Nat} {o : Oper} {next : Act → World → Prop} {Q : Exit → Act → World → Prop} {cv : Value} (hd : ∀ c, o.op ≠ .defer c)
    (h : (execOp a.eval o).run P w = .ok (.value cv) w') (hn : next (a.put o.dst cv) w') : o.wpIn (FW r) m P a w next Q := by
  refine ⟨fun _ _ => trivial, ?_⟩
  rw [Oper.semAt_eq _ _ _ hd, h]
  exact hn
theorem wpIn_skip' {r : Option Nat} {m : Nat} {o : Oper} {next : Act → World → Prop} {Q : Exit → Act → World → Prop} (hd : ∀ c, o.op ≠ .defer c)
    (h : (execOp a.eval o).run P w = .ok .skip w') (hn : next (a.put o.dst undef) w') : o.wpIn (FW r) m P a w next Q := by
  refine ⟨fun _ _ => trivial, ?_⟩
  rw [Oper.semAt_eq _ _ _ hd, h]
  exact hn

theorem okOp_defer {ao : AOp} {op : Op} (h : okOp P fm ao op = true) : ∀ c, op ≠ .defer c := by
  intro c e
  subst e
  cases ao <;> simp [okOp] at h

theorem op_sound {A' : Frame} {call : CallFn} {r : Option Nat} {m : Nat} (hcall : CallSound P fm call) {ao : AOp} {o : Oper} {v : AVal} (hS : Sim fm s g w) (hF : FrameRep fm g s.n nt A a.tmps)
    (hok : okOp P fm ao o.op = true) (h : aop call ao A s = some (v, A', s')) {next : Act → World → Prop} {Q : Exit → Act → World → Prop}
    (hn : ∀ cv w' g', Post fm nt g w s s' A' a.tmps v cv g' w' → next (a.put o.dst cv) w') : o.wpIn (FW r) m P a w next Q := by
  have hd := okOp_defer hok
  by_cases hp : ao.isPure = true
  · obtain ⟨rfl, rfl, cv, h1, h2⟩ := pure_sound hF hS hok hp h
    exact wpIn_value hd h1 (hn cv w g ⟨hS, le.refl _ _, Nat.le_refl _, Kept.refl _ _, hF, h2⟩)
  · obtain ⟨dst, op, ty, pos, after, gd⟩ := o
    simp only at hok hd
    cases ao <;> simp only [AOp.isPure, not_true_eq_false, Bool.false_eq_true, not_false_eq_true] at hp <;> simp only [aop] at h
    case take x =>
      generalize htk : x.taken A = q at h
      obtain ⟨v0, A0⟩ := q
      simp only [Option.some.injEq, Prod.mk.injEq] at h
      obtain ⟨rfl, rfl, rfl⟩ := h
      have key : ∀ y, okOpd fm x y = true → ∃ g', Post fm nt g w s s A0 a.tmps v0 (a.eval y) g' w := fun y hy => by
        obtain ⟨g1, q1, q2, q3, q4, q5, _⟩ := taken_sound hS hF hy htk
        exact ⟨g1, q1, q2, Nat.le_refl _, q3, q4, q5⟩
      cases op <;> simp only [okOp, Bool.false_eq_true] at hok
      · obtain ⟨g', hp⟩ := key _ hok
        exact wpIn_value hd rfl (hn _ _ _ hp)
      · obtain ⟨g', hp⟩ := key _ hok
        exact wpIn_value hd rfl (hn _ _ _ hp)
    case alloc cs =>
      cases h
      cases op <;> simp only [okOp, Bool.false_eq_true] at hok
      rename_i t
      obtain ⟨z, hz, hl⟩ := zero_run (P := P) (w := w) hok
      have hp := newCells_sound (elem := t) hS hF (litOkL_rep fm g s.n hl)
      refine wpIn_value hd (w' := w.alloc (.cells z.cells t)) ?_ (hn _ _ _ hp)
      simp only [execOp, Instr.alloc, Sem.run_bind, hz, Result.andThen_ok, newVar, newRow, run_newObj, World.alloc_eq, Sem.run_pure]
    case box x =>
      cases op <;> simp only [okOp, Bool.false_eq_true] at hok
      rename_i t y
      split at h
      · rename_i hk
        cases h
        have hp := newCells_sound (elem := t) hS hF ((okOpd_rep hF hok).cells hk)
        refine wpIn_value hd (w' := w.alloc (.cells (a.eval y).cells t)) ?_ (hn _ _ _ hp)
        simp only [execOp, Instr.box, newVar, newRow, Sem.run_bind, run_newObj, World.alloc_eq, Sem.run_pure, Result.andThen_ok]
      · cases h
    case buildSlice zero len parts =>
      cases op <;> simp only [okOp, Bool.false_eq_true] at hok
      rename_i t len' ps
      split at hok
      · rename_i e hu
        split at hok
        · rename_i i hi
          simp only [Bool.and_eq_true, beq_iff_eq, decide_eq_true_eq, bne_iff_ne, ne_eq] at hok
          obtain ⟨⟨⟨⟨⟨rfl, hlim⟩, hs0⟩, hzl⟩, hz⟩, hps⟩ := hok
          obtain ⟨r0, hr0, h⟩ := bind_some' h
          cases h
          obtain ⟨z, hzr, hzo⟩ := zero_run (P := P) (w := w) hz
          have hzc : z.cells.size = i.size := by
            have := (litOkL_rep fm g s.n hzo).length
            rw [← Array.length_toList, ← this]
            exact hzl
          have hrep := zeros_rep (litOkL_rep fm g s.n hzo) (by rw [hzc]; exact hs0) len
          obtain ⟨us, hu1, hu2, hu3⟩ := fill_run hF (vs := ((Array.range (len * i.size)).map fun k => z.cells[k % z.cells.size]!)) hps (by simpa [hzc] using hrep) hr0
          obtain ⟨p1, p2, p3, p4, p5⟩ := newSt_sound (vs := us) (elem := e) hS hF
          refine wpIn_value hd (w' := w.alloc (.cells us e)) (cv := .slice (some ⟨w.heap.size, 0, none⟩) len len) ?_ (hn _ _ _ ⟨p1, p2, Nat.le_refl _, p3, p4, ?_⟩)
          · have hsz : (sizeOf e).run P w = .ok i.size w := by simp [sizeOf, run_typeInfo hi]
            have hlim' : ¬ (len * i.size > 2 ^ 24) := by omega
            have hps2 : ((ps.map fun (i, x) => (i, a.eval x)).toList) = ps.toList.map fun (i, x) => (i, a.eval x) := by simp
            simp only [execOp, Instr.buildSlice, Sem.run_bind, run_underlying hu, Result.andThen_ok, hsz, if_neg hlim', Sem.run_ite]
            by_cases h0 : len * i.size = 0
            · simp only [if_pos h0, Sem.run_pure, Result.andThen_ok]
              rw [h0] at hu1
              have e0 : ((Array.range 0).map fun k => z.cells[k % z.cells.size]!) = ((Array.range 0).map fun k => (#[] : Array Value)[k % (#[] : Array Value).size]!) := by simp
              rw [e0] at hu1
              rw [h0, hps2, hu1]
              simp only [newRow, Sem.run_bind, run_newObj, World.alloc_eq, Sem.run_pure, Result.andThen_ok]
            · simp only [if_neg h0, Sem.run_bind, hzr, Sem.run_pure, Result.andThen_ok]
              rw [hps2, hu1]
              simp only [newRow, Sem.run_bind, run_newObj, World.alloc_eq, Sem.run_pure, Result.andThen_ok]
          · refine .sl _ _ _ _ _ _ us.toList (.inr ⟨rfl, rfl⟩) (Nat.le_refl _) (hu2.mono p2 (Nat.le_refl _)) ?_
            rw [p5]
            simp
        · cases hok
      · cases hok
    case store k x v0 =>
      cases op <;> simp only [okOp, Bool.false_eq_true, Bool.and_eq_true] at hok
      rename_i t y u
      obtain ⟨⟨hx, hv0⟩, hsz⟩ := hok
      generalize htk : v0.taken A = q at h
      obtain ⟨v1, A1⟩ := q
      simp only at h
      obtain ⟨s1, hs1, h⟩ := bind_some' h
      cases h
      obtain ⟨g1, q1, q2, q3, q4, q5, q6, q7, q8⟩ := taken_sound hS hF hv0 htk
      have hxr := okOpd_rep hF hx
      cases hxa : x.ev A <;> rw [hxa] at hs1 hxr <;> simp only [storeAt] at hs1 <;> try (cases hs1; done)
      rename_i ro off
      split at hs1
      · rename_i cs hr
        split at hs1
        · rename_i hc
          obtain ⟨hlen, hle, hmay, hund, hone⟩ := hc
          cases hs1
          generalize hya : a.eval y = ca at hxr
          cases hxr with
          | ref _ _ b hlt hb =>
          have hb1 : g1.obj ro = some b := by rw [q7]; exact hb
          obtain ⟨c, elem, hw, hcs, hcells⟩ := q1.objs ro _ hr b hb1
          have hsize : (sizeOf t).run P w = .ok k w := run_sizeOf hsz w
          -- the cells of the value
          have hv1 : v1.known = true := by
            cases v1 <;> first | rfl | (simp [AVal.cells, AVal.one] at hone)
          have hcl : RepL fm g1 s.n (v1.cells.map AVal.strip) (a.eval u).cells.toList := by
            have := q5.strip.cells (by cases v1 <;> first | rfl | (rename_i o; cases o <;> rfl) | simp [AVal.known] at hv1)
            have e : v1.strip.cells = v1.cells.map AVal.strip := by
              cases v1 <;> try rfl
              case sl xs l o => cases o <;> rfl
              case agg xs =>
                show xs = xs.map AVal.strip
                have hq : Rep fm g1 s.n (.agg xs) (a.eval u) := q5
                generalize a.eval u = cu at hq
                cases hq with
                | agg _ vs hR => exact hR.strip_id.symm
            rw [e] at this
            exact this
          have hcu : (a.eval u).cells.size = k := by rw [← Array.length_toList, ← hcl.length, List.length_map]; exact hlen
          have hones : ∀ v ∈ (a.eval u).cells.toList, v.oneCell' = true := by
            intro v hv
            obtain ⟨j, hj, rfl⟩ := List.mem_iff_getElem.1 hv
            have hj2 : j < v1.cells.length := by have := hcl.length; rw [List.length_map] at this; omega
            obtain ⟨x1, hx1, hx2⟩ := hcl.get j (v1.cells[j]).strip (by simp [hj2])
            have : x1 = (a.eval u).cells.toList[j] := by
              rw [List.getElem?_eq_getElem hj] at hx1
              exact (Option.some.inj hx1).symm
            rw [← this]
            refine one_cell hx2 ?_
            have h1 := List.all_eq_true.1 hone _ (List.getElem_mem hj2)
            generalize v1.cells[j] = z at h1 ⊢
            cases z <;> first | exact h1 | (rename_i o; cases o <;> rfl)
          have hcc : c.toList.length = cs.length := by simp [hcs]
          have hst := run_storeCells_at P b off elem (a.eval u).cells.toList 0 c w hw (by rw [Array.length_toList, hcu]; omega) hones
          simp only [Nat.add_zero] at hst
          have hrun : (execOp a.eval { dst := dst, op := .store t y u, type := ty, pos := pos, after := after, guard := gd }).run P w =
              .ok .skip (w.setRow b (c.toList.take off ++ (a.eval u).cells.toList ++ c.toList.drop (off + (a.eval u).cells.toList.length)).toArray) := by
            have hne : ¬ ((a.eval u).cells.size ≠ k) := by omega
            simp only [execOp, hya, Instr.storeAt, Instr.sureAddr, storeVar, Sem.run_bind, Sem.run_pure, Result.andThen_ok, hsize, if_neg hne, hst]
          by_cases hm : ∃ ds l z, v1 = .sl ds l (.mine z)
          · obtain ⟨ds, l, z, rfl⟩ := hm
            have hul : underL (ro + 1) ds = true := by
              simp only [AVal.cells, underL, AVal.under, Own.under, Bool.and_true] at hund
              exact hund
            have hsl : ∃ bb base cap, a.eval u = .slice (some ⟨bb, base, none⟩) l cap := by
              obtain ⟨bb, base, cap, _, e, _⟩ := q5
              exact ⟨bb, base, cap, e⟩
            obtain ⟨bb, base, cap, hue⟩ := hsl
            obtain ⟨g2, p1, p2, p3, p4⟩ := write_mine q1 q4 hr hb1 hw (by simpa [AVal.cells] using (show off + 1 ≤ cs.length by simp only [AVal.cells, List.length_singleton] at hlen; omega)) hmay q5 hul
            refine wpIn_skip' hd hrun (hn undef _ g2 ⟨?_, q2.trans p2, Nat.le_refl _, q3.trans ?_, p4, .undef _⟩)
            · rw [hue]; rw [hue] at p1; exact p1
            · rw [hue]; rw [hue] at p3; exact p3
          · have hnm : v1.strip = v1 := (taken_id hv0 htk).resolve_left hm
            have hvr : Rep fm g1 s.n v1 (a.eval u) := by rw [← hnm]; exact q5.strip
            obtain ⟨p1, p2, p3⟩ := write_plain q1 q4 hr hb1 hw (by rw [hlen]; exact hle) hmay ((hvr.cells hv1).lower hund)
            exact wpIn_skip' hd hrun (hn undef _ g1 ⟨p1, q2, Nat.le_refl _, q3.trans p2, p3, .undef _⟩)
        · cases hs1
      · cases hs1
    case makeMap =>
      cases h
      cases op <;> try (simp only [okOp, Bool.false_eq_true] at hok; done)
      rename_i t rs
      cases rs with
      | some x => simp [okOp] at hok
      | none =>
        refine wpIn_value hd (w' := w.alloc (.map #[] 0)) ?_ (hn _ _ _ (newMap_sound hS hF))
        simp only [execOp, Option.map_none, Instr.makeMap, Sem.run_bind, run_newObj, World.alloc_eq, Sem.run_pure, Result.andThen_ok]
    case insert kt mo k v0 =>
      have key : ∀ t m' k' v', (keyOk P t kt = true ∧ okOpd fm mo m' = true) ∧ okOpd fm k k' = true → okOpd fm v0 v' = true →
          ∃ w', (Instr.mapUpdate t (a.eval m') (a.eval k') (a.eval v')).run P w = .ok () w' ∧ Post fm nt g w s s' A' a.tmps v undef g w' := by
        intro t m' k' v' hh hv'
        obtain ⟨⟨hkt, hm'⟩, hk'⟩ := hh
        have hmr := okOpd_rep hF hm'
        cases hxa : mo.ev A <;> rw [hxa] at h hmr <;> simp only at h <;> try (cases h; done)
        split at h
        · rename_i ks vs hr
          obtain ⟨⟨ks', vs'⟩, hi, h⟩ := bind_some' h
          simp only at h
          split at h
          · rename_i hu
            cases h
            exact insert_sound hS hF hmr (okOpd_rep hF hk') (okOpd_rep hF hv') hkt hr hi hu
          · cases h
        · cases h
      cases op <;> try (simp only [okOp, Bool.false_eq_true] at hok; done)
      all_goals
        simp only [okOp, Bool.and_eq_true] at hok
        obtain ⟨w', h1, h2⟩ := key _ _ _ _ hok.1 hok.2
        refine wpIn_skip' hd (w' := w') ?_ (hn _ _ _ h2)
        simp only [execOp, Sem.run_bind, h1, Result.andThen_ok, Sem.run_pure]
    case append size x y =>
      cases op <;> try (simp only [okOp, Bool.false_eq_true] at hok; done)
      rename_i c
      obtain ⟨callee, args', ts⟩ := c
      cases callee with
      | builtin b =>
        cases b with
        | append =>
          simp only [okOp] at hok
          split at hok
          · rename_i x' y' t u e1 e2
            simp only [Bool.and_eq_true] at hok
            obtain ⟨⟨hx, hy⟩, hok⟩ := hok
            have ea : args' = #[x', y'] := by apply Array.ext'; simpa using e1
            have et : ts = #[t, u] := by apply Array.ext'; simpa using e2
            subst ea
            subst et
            split at hok
            · rename_i e ht
              split at hok
              · rename_i i d hi hu
                simp only [Bool.and_eq_true, beq_iff_eq, bne_iff_ne, ne_eq, decide_eq_true_eq] at hok
                obtain ⟨⟨⟨⟨⟨h1, h2⟩, h3⟩, h4⟩, h5⟩, _⟩ := hok
                have hd' : notInt d = true := by cases d <;> first | rfl | (simp at h4)
                split at h5
                · rename_i z hz
                  obtain ⟨cv, w', g', r1, r2⟩ := append_sound (ty := ty) hS hF hx hy ht hu hd' hi h1 h2 h3 hz (by simpa using h5) h
                  refine wpIn_value hd (w' := w') ?_ (hn _ _ _ r2)
                  simp only [execOp, resolve, Sem.run_bind, Sem.run_pure, Result.andThen_ok, invoke, builtin]
                  simp only [List.map_toArray, List.map_cons, List.map_nil, r1, Sem.run_bind, Result.andThen_ok, Sem.run_pure]
                · cases h5
              · cases hok
            · cases hok
          · cases hok
        | _ => simp [okOp] at hok
      | _ => simp [okOp] at hok
    case call f args =>
      cases op <;> try (simp only [okOp, Bool.false_eq_true] at hok; done)
      rename_i c
      obtain ⟨callee, cargs, ts⟩ := c
      cases callee with
      | value fo =>
        simp only [okOp, Bool.and_eq_true] at hok
        split at h
        · rename_i i first captured he
          obtain ⟨⟨v0, s0⟩, hc, h⟩ := map_some' h
          cases h
          obtain ⟨hen, hsound⟩ := hcall _ _ _ _ _ hc
          obtain ⟨vs, hvs, hrun⟩ := run_call (w := w) (ty := ty) (ts := ts) hF hok.1 hok.2 he hen
          refine ⟨fun _ _ => trivial, ?_⟩
          rw [Oper.semAt_eq _ _ _ hd]
          have hrun' : (execOp a.eval { dst := dst, op := .call { callee := .value fo, args := cargs, argTypes := ts }, type := ty, pos := pos, after := after, guard := gd }).run P w = .ok (.enter (fm i) vs) w := hrun
          rw [hrun', Oper.uponIn_enter]
          refine ⟨fun h => by simp [FW] at h, ?_⟩
          have hcs := hsound g.hide w vs (m - 1) hS.hide (hvs.mono (hide_same.le _) (Nat.le_refl _))
          refine CallsIn.mono (F := FW r) (show CallsIn (FW r) (m - 1) P (fm i) vs w _ from hcs) ?_
          rintro e w1 ⟨cv, g1, rfl, q1, q2, q3, q4, q5⟩
          -- the frame's own blocks are its own again
          have hoth : ∀ b d, g.own b = .slot d → Fix g.hide g1 b ∧ w1.heap[b]? = w.heap[b]? := fun b d hb => q4 b true (by simp [Gh.hide, hb])
          have hun : SameBut g1 (g.unhide g1) := ⟨rfl, rfl, rfl, rfl, rfl⟩
          have hle2 : le s.n g (g.unhide g1) := ((hide_same.le s.n).trans q2).trans (hun.le s.n)
          have hres : ∀ b, g1.own b = .res → Fix g1 (g.unhide g1) b := fun b hb => by
            refine ⟨?_, rfl, rfl⟩
            simp only [Gh.unhide]
            split
            · rename_i d hd'
              rw [(hoth b d hd').1.1] at hb
              simp [Gh.hide, hd'] at hb
            · rfl
          refine hn cv w1 (g.unhide g1) ⟨q1.sameBut hun (fun b => ?_), hle2, q3, ⟨fun b q hb => ?_, q4.os, q4.out, fun b q hb => q4.mst b q (by simp [Gh.hide, hb])⟩, hF.keep hle2 q3 (fun b d hb => ?_), q5.mono (hun.le _) (Nat.le_refl _) hres⟩
          · simp only [Gh.unhide]
            split
            · rename_i d hd'
              right
              have := (hoth b d hd').1.1
              rw [this]
              simp [Gh.hide, hd', Tag.mine?]
            · exact .inl rfl
          · obtain ⟨e1, e2⟩ := q4 b q (by simp [Gh.hide, hb])
            refine ⟨⟨?_, e1.2.1, e1.2.2⟩, e2⟩
            simp only [Gh.unhide, hb, e1.1, Gh.hide]
          · obtain ⟨e1, e2⟩ := hoth b d hb
            exact ⟨by simp [Gh.unhide, hb], e1.2.1, e1.2.2⟩
        · cases h
      | _ => simp [okOp] at hok
    case callp f args =>
      cases op <;> try (simp only [okOp, Bool.false_eq_true] at hok; done)
      rename_i c
      obtain ⟨callee, cargs, ts⟩ := c
      cases callee with
      | value fo =>
        simp only [okOp, Bool.and_eq_true] at hok
        split at h
        · rename_i i first captured he
          split at h
          · rename_i hu
            obtain ⟨⟨v0, s0⟩, hc, h⟩ := bind_some' h
            simp only at h
            split at h
            · rename_i hn0
              cases h
              obtain ⟨hen, hsound⟩ := hcall _ _ _ _ _ hc
              obtain ⟨vs, hvs, hrun⟩ := run_call (w := w) (ty := ty) (ts := ts) hF hok.1 hok.2 he hen
              refine ⟨fun _ _ => trivial, ?_⟩
              rw [Oper.semAt_eq _ _ _ hd]
              have hrun' : (execOp a.eval { dst := dst, op := .call { callee := .value fo, args := cargs, argTypes := ts }, type := ty, pos := pos, after := after, guard := gd }).run P w = .ok (.enter (fm i) vs) w := hrun
              rw [hrun', Oper.uponIn_enter]
              refine ⟨fun h => by simp [FW] at h, ?_⟩
              have hcs := hsound g.away w vs (m - 1) hS.away ((hvs.lower hu).mono (away_le 0) (Nat.le_refl _))
              refine CallsIn.mono (F := FW r) (show CallsIn (FW r) (m - 1) P (fm i) vs w _ from hcs) ?_
              rintro e w1 ⟨cv, g1, rfl, q1, q2, q3, q4, q5⟩
              obtain ⟨p1, p2, p3, p4, p5, p6⟩ := back_sound hS q1 q2 q4
              rw [hn0] at q5
              exact hn cv w1 (g.back g1) ⟨p1, p2, Nat.le_refl _, p3, hF.keep p2 (Nat.le_refl _) (fun b d hb => (p4 b (by rw [hb]; rfl)).1), q5.mono p5 (Nat.zero_le _) p6⟩
            · cases h
          · cases h
        · cases h
      | _ => simp [okOp] at hok
    case allocB =>
      cases h
      cases op <;> simp only [okOp, Bool.false_eq_true, Bool.and_eq_true, beq_iff_eq] at hok
      rename_i t
      obtain ⟨rfl, hok⟩ := hok
      obtain ⟨z, hz, hl⟩ := zero_run (P := P) (w := w) hok
      have hzc : z.cells = #[.pointer none, .slice none 0 0] := by
        have h1 := litOkL_rep fm g s.n hl
        apply Array.ext'
        generalize z.cells.toList = l at h1
        cases h1 with
        | cons _ _ _ _ a1 h1 =>
        cases h1 with
        | cons _ _ _ _ a2 h1 =>
        cases h1 with
        | nil =>
        cases a1
        cases a2
        rfl
      have hp := newObj_sound (o := .bld []) (ob := .cells z.cells (fm 1000000)) hS hF (by
        refine ⟨.pointer none, .slice none 0 0, ?_, .inl rfl, .inl ⟨rfl, rfl⟩⟩
        rw [alloc_get, if_pos rfl, hzc])
      refine wpIn_value hd (w' := w.alloc (.cells z.cells (fm 1000000))) ?_ (hn _ _ _ hp)
      simp only [execOp, Instr.alloc, Sem.run_bind, hz, Result.andThen_ok, newVar, newRow, run_newObj, World.alloc_eq, Sem.run_pure]
    case conv k x =>
      cases op <;> simp only [okOp, Bool.false_eq_true, Bool.and_eq_true] at hok
      cases k
      case int j => exact absurd rfl hp
      case same => exact absurd rfl hp
      case bytesStr => have := hok.1; simp [convOk] at this
      case strBytes =>
        rename_i t1 t2 y
        obtain ⟨hc, hx⟩ := hok
        obtain ⟨r0, hr0, h⟩ := bind_some' h
        cases h
        simp only [convOk] at hc
        split at hc
        · rename_i u hu
          unfold isU8 at hc
          split at hc
          · rename_i e he
            split at hc
            · rename_i he8
              have hxr := okOpd_rep hF hx
              generalize hxe : x.ev A = xv at hr0 hxr
              generalize hce : a.eval y = cy at hxr
              cases xv <;> simp only [aconv] at hr0 <;> try (cases hr0; done)
              rename_i l
              split at hr0
              · cases hr0
                cases hxr
                have hsz : (⟨l.toArray⟩ : ByteArray).size = l.length := by simp [ByteArray.size]
                obtain ⟨p1, p2, p3, p4, p5⟩ := newBytes_sound (e := e) (l := ⟨l.toArray⟩) hS hF (vs := l.map fun b => Value.int .u8 b.toNat) (by simp) rfl
                have hrun := Lib.run_convert_string_bytes (P := P) w t1 t2 e ⟨l.toArray⟩ hu he he8
                refine wpIn_value hd (w' := Lib.bytesWorld w e ⟨l.toArray⟩) (cv := .slice (some ⟨w.heap.size, 0, none⟩) l.length (grownCap w l.length 0 e)) ?_ (hn _ _ _ ⟨p1, p2, Nat.le_refl _, p3, p4, ?_⟩)
                · rw [hsz] at hrun
                  simp only [execOp, hce, Sem.run_bind, hrun, Result.andThen_ok, Sem.run_pure]
                · refine .sl _ _ _ _ _ _ (l.map fun b => Value.int .u8 b.toNat) (.inl rfl) (grownCap_ge _ _ _ _) (byteCells_rep _ _ l) ?_
                  rw [p5]
                  simp
              · cases hr0
            · cases hc
          · cases hc
        · cases hc
    case bad => cases h

end
end Go.Proofs.YtdhgdpokdhjanaaGreat.Abs
