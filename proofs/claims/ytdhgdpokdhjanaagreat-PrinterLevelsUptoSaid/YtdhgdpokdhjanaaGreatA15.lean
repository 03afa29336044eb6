/- append, the instruction. -/
import Derived.Test.YtdhgdpokdhjanaaGreatA14
set_option linter.unusedSimpArgs false
set_option linter.unusedVariables false
namespace Go.Proofs.YtdhgdpokdhjanaaGreat.Abs
open Go

section
variable {P : Program} {fm : Nat → Nat} {g g' : Gh} {s s' : ASt} {n n' nt : Nat} {A A1 A' : Frame} {a : Act} {w w' : World}

theorem Sim.heap (hS : Sim fm s g w) (h : w'.heap = w.heap) : Sim fm s g w' where
  size := hS.size
  objs := fun r o hr b hb => (hS.objs r o hr b hb).mono (le.refl _ _) (fun _ _ _ => ⟨rfl, rfl, rfl⟩) (fun _ => rfl) (by rw [h]) (fun _ e => ⟨e, rfl, by rw [h]⟩)
  objn := fun r b hb => by rw [h]; exact hS.objn r b hb
  st := fun b hb => by rw [h]; exact hS.st b hb
  mst := fun b ks vs hb => by rw [h]; exact hS.mst b ks vs hb
  fresh := fun b hb => hS.fresh b (by rw [← h]; exact hb)

def Gh.newRow (g : Gh) (b : Nat) (vs : List Value) (total : Nat) : Gh :=
  { g with st := fun x => if x = b then vs else g.st x, sz := fun x => if x = b then total else g.sz x, own := fun x => if x = b then .res else g.own x }

/-- A new row, with places behind what is steady. -/
theorem newRow_sound {vs rest : List Value} {elem : Nat} (hS : Sim fm s g w) (hF : FrameRep fm g s.n nt A a.tmps) :
    let g' := g.newRow w.heap.size vs (vs ++ rest).length
    let w' := w.alloc (.cells (vs ++ rest).toArray elem)
    Sim fm s g' w' ∧ le s.n g g' ∧ Kept g g' w w' ∧ FrameRep fm g' s.n nt A a.tmps := by
  intro g' w'
  obtain ⟨f1, f2, f3⟩ := hS.fresh w.heap.size (Nat.le_refl _)
  have hle : le s.n g g' := ⟨fun _ _ _ h => h, fun x => by
      by_cases e : x = w.heap.size
      · subst e; rw [f2]; exact List.nil_prefix
      · show g.st x <+: if x = w.heap.size then vs else g.st x
        rw [if_neg e]; exact List.prefix_refl _, fun _ _ h => h, fun _ _ _ h k e => ⟨h, k, e, Nat.le_refl _, fun _ => rfl⟩⟩
  have hne : ∀ b, b ≠ w.heap.size → Fix g g' b := fun b hb => ⟨by simp [g', Gh.newRow, hb], by simp [g', Gh.newRow, hb], by simp [g', Gh.newRow, hb]⟩
  have hown : ∀ b t, g.own b = t → t ≠ .free → b ≠ w.heap.size := fun b t hb ht e => ht (by rw [← hb, e, f1])
  refine ⟨?_, hle, ?_, hF.keep hle (Nat.le_refl _) (fun b d hb => hne b (hown b _ hb (by simp)))⟩
  · refine hS.step (· = w.heap.size) hS.size hle (Nat.le_refl _)
      (fun b hb => ⟨hne b hb, rfl, by rw [alloc_get, if_neg hb]⟩) (fun b h1 h2 => by rw [World.size_alloc] at h2; omega) (by rw [World.size_alloc]; omega) ?_ ?_ ?_ ?_ ?_ (fun b hb q e => by subst hb; rw [f1] at e; cases e)
    · intro r o' hr
      left
      refine ⟨hr, rfl, fun b hb e2 => ?_, fun c => rfl, fun b c hb => hown b _ hb (by simp)⟩
      obtain ⟨_, _, h3, _⟩ := hS.objn r b hb
      omega
    · intro r b hb
      left
      obtain ⟨_, _, h3, _⟩ := hS.objn r b hb
      exact ⟨hb, by omega⟩
    · intro b hb h
      subst hb
      exact ⟨_, elem, (0, 0), by rw [alloc_get, if_pos rfl], by simp [g', Gh.newRow], by simp [g', Gh.newRow], fun _ => rfl⟩
    · intro b hb ks us h
      subst hb
      have : g.mst w.heap.size = some (ks, us) := h
      rw [f3] at this
      cases this
    · intro b hb h
      subst hb
      rw [World.size_alloc] at h
      omega
  · refine ⟨?_, rfl, rfl, fun _ _ _ => rfl⟩
    intro b q hb
    have := hown b _ hb (by simp)
    exact ⟨hne b this, by rw [alloc_get, if_neg this]⟩

def Gh.longer (g : Gh) (b : Nat) (vs : List Value) : Gh := { g with st := fun x => if x = b then g.st x ++ vs else g.st x }

/-- More becomes steady of a row that an instruction's value owns. -/
theorem longer_sound {b : Nat} {cur : Array Value} {elem : Nat} {news : List Value} (hS : Sim fm s g w) (hF : FrameRep fm g s.n nt A a.tmps) (hb : g.own b = .res)
    (hw : w.heap[b]? = some (.cells cur elem (0, 0))) (hfit : (g.st b).length + news.length ≤ cur.size) :
    let g' := g.longer b news
    let w' := w.setRow b (cur.toList.take (g.st b).length ++ news ++ cur.toList.drop ((g.st b).length + news.length)).toArray
    Sim fm s g' w' ∧ le s.n g g' ∧ Kept g g' w w' ∧ FrameRep fm g' s.n nt A a.tmps := by
  intro g' w'
  have hget : ∀ k, w'.heap[k]? = if k = b then some (.cells (cur.toList.take (g.st b).length ++ news ++ cur.toList.drop ((g.st b).length + news.length)).toArray elem (0, 0)) else w.heap[k]? := fun k => setRow_get w hw k
  have hle : le s.n g g' := ⟨fun _ _ _ h => h, fun x => by
      by_cases e : x = b
      · subst e
        show g.st x <+: if x = x then g.st x ++ news else g.st x
        rw [if_pos rfl]; exact List.prefix_append _ _
      · show g.st x <+: if x = b then g.st x ++ news else g.st x
        rw [if_neg e]; exact List.prefix_refl _, fun _ _ h => h, fun _ _ _ h k e => ⟨h, k, e, Nat.le_refl _, fun _ => rfl⟩⟩
  have hne : ∀ x, x ≠ b → Fix g g' x := fun x hx => ⟨rfl, by simp [g', Gh.longer, hx], rfl⟩
  have hown : ∀ x t, g.own x = t → t ≠ .res → x ≠ b := fun x t hx ht e => ht (by rw [← hx, e, hb])
  obtain ⟨c, el, fr, q1, q2, q3, q4⟩ := hS.st b (.inr (by rw [hb]; rfl))
  rw [hw] at q1
  cases q1
  refine ⟨?_, hle, ?_, hF.keep hle (Nat.le_refl _) (fun x d hx => hne x (hown x _ hx (by simp)))⟩
  · refine hS.step (· = b) hS.size hle (Nat.le_refl _)
      (fun x hx => ⟨hne x hx, rfl, by rw [hget, if_neg hx]⟩) (fun x h1 h2 => by rw [setRow_size] at h2; omega) (by rw [setRow_size]; omega) ?_ ?_ ?_ ?_ ?_ (fun x hx q e => by rw [hx, hb] at e; cases e)
    · intro r o' hr
      left
      refine ⟨hr, rfl, fun x hx e2 => ?_, fun c => rfl, fun x c hx => hown x _ hx (by simp)⟩
      obtain ⟨_, h2, _⟩ := hS.objn r x hx
      subst e2
      rw [hb] at h2
      cases h2
    · intro r x hx
      left
      refine ⟨hx, fun e2 => ?_⟩
      obtain ⟨_, h2, _⟩ := hS.objn r x hx
      subst e2
      rw [hb] at h2
      cases h2
    · intro x hx h
      subst hx
      refine ⟨_, elem, (0, 0), by rw [hget, if_pos rfl], ?_, ?_, fun _ => rfl⟩
      · have : cur.toList.take (g.st x).length = g.st x := by
          obtain ⟨t, ht⟩ := q2
          rw [← ht]
          simp
        rw [this]
        show (if x = x then g.st x ++ news else g.st x) <+: _
        rw [if_pos rfl]
        exact List.prefix_append _ _
      · simp only [List.size_toArray, List.length_append, List.length_take, List.length_drop, Array.length_toList]
        show _ = g.sz x
        rw [← q3]
        omega
    · intro x hx ks us h
      subst hx
      obtain ⟨es, clock, e1, _⟩ := hS.mst x ks us h
      rw [hw] at e1
      cases e1
    · intro x hx h
      subst hx
      rw [setRow_size] at h
      obtain ⟨e1, _⟩ := hS.fresh x h
      rw [hb] at e1
      cases e1
  · refine ⟨?_, rfl, rfl, fun _ _ _ => rfl⟩
    intro x q hx
    have := hown x _ hx (by simp)
    exact ⟨hne x this, by rw [hget, if_neg this]⟩

theorem first_zero {size : Nat} {cy : Value} {y : AVal} {new : List AVal} (hy : Rep fm g n y cy) (h : newCells y = some (new, 0)) : ∃ k, (Builtin.lenOf cy).run P w = .ok 0 w ∧ (Builtin.firstCells size 0 cy).run P w = .ok k w ∧ k = #[] := by
  cases y <;> simp only [newCells] at h <;> try (cases h; done)
  case nils =>
    cases hy
    exact ⟨_, by simp [Builtin.lenOf], by simp [Builtin.firstCells], rfl⟩
  case str l =>
    simp only [Option.some.injEq, Prod.mk.injEq] at h
    have hl : l = [] := List.length_eq_zero_iff.1 h.2
    subst hl
    rw [hy.str_inv]
    refine ⟨#[], by simp [Builtin.lenOf, ByteArray.size], ?_, rfl⟩
    simp only [Builtin.firstCells, Sem.run_pure]
    congr 1
    apply Array.ext'
    simp [ByteArray.data_extract]
  case sl cs len o =>
    simp only [Option.some.injEq, Prod.mk.injEq] at h
    obtain ⟨_, rfl⟩ := h
    cases hy
    · exact ⟨_, by simp [Builtin.lenOf], by simp [Builtin.firstCells, loadCells, loadCellsFrom], rfl⟩
    · exact ⟨_, by simp [Builtin.lenOf], by simp [Builtin.firstCells, loadCells, loadCellsFrom], rfl⟩

theorem run_append_zero {t u ty e len cap : Nat} {i : TypeInfo} {d : TypeDesc} {x : Value} {base : Option Addr} (ht : P.underlying t = some (.slice e)) (hu : P.underlying u = some d) (hd : notInt d = true)
    (hi : P.info? e = some i) (hl : (Builtin.lenOf x).run P w = .ok 0 w) (hf : (Builtin.firstCells i.size 0 x).run P w = .ok #[] w) (hc : len ≤ cap) :
    (Builtin.append_ #[t, u] ty #[.slice base len cap, x]).run P w = .ok (.slice base len cap) w := by
  have hc' : len + 0 ≤ cap := hc
  have hst : ∀ b, (storeCells b #[].toList).run P w = .ok () w := fun b => by simp [storeCells]
  cases d with
  | int _ => cases hd
  | _ =>
    cases base <;>
    simp only [Builtin.append_, List.getElem?_toArray, List.getElem?_cons_zero, List.getElem?_cons_succ, Sem.run_bind, run_underlying ht, run_underlying hu, Result.andThen_ok, sizeOf, run_typeInfo hi, Sem.run_pure,
      Bool.false_eq_true, if_false, Bool.not_false, if_true, hl, if_pos hc', hf, hst] <;> rfl

theorem append_sound {x y : Opd} {x' y' : Operand} {t u ty e size : Nat} {i : TypeInfo} {d : TypeDesc} {z : Value} {v : AVal} (hS : Sim fm s g w) (hF : FrameRep fm g s.n nt A a.tmps)
    (hx : okOpd fm x x' = true) (hy : okOpd fm y y' = true) (ht : P.underlying t = some (.slice e)) (hu : P.underlying u = some d) (hd : notInt d = true) (hi : P.info? e = some i)
    (hsz : i.size = size) (hs0 : size ≠ 0) (hb : i.bytes ≤ 128) (hz : i.zero = some z) (hzs : z.cells.size = size)
    (h : aappend size A s x y = some (v, A', s')) : ∃ cv w' g', (Builtin.append_ #[t, u] ty #[a.eval x', a.eval y']).run P w = .ok cv w' ∧ Post fm nt g w s s' A' a.tmps v cv g' w' := by
  subst hsz
  unfold aappend at h
  obtain ⟨⟨new, k⟩, hnew, h⟩ := bind_some' h
  have hyr := okOpd_rep hF hy
  simp only at h
  split at h
  · -- nothing is appended
    rename_i hk
    subst hk
    obtain ⟨k0, hl0, hf0, rfl⟩ := first_zero (P := P) (size := i.size) (w := w) hyr hnew
    generalize htk : x.taken A = q at h
    obtain ⟨v0, A0⟩ := q
    obtain ⟨g1, q1, q2, q3, q4, q5, q6, q7, q8⟩ := taken_sound hS hF hx htk
    have key : ∀ base len cap, a.eval x' = .slice base len cap → len ≤ cap → (Builtin.append_ #[t, u] ty #[a.eval x', a.eval y']).run P w = .ok (a.eval x') w := by
      intro base len cap he hc
      rw [he]
      exact run_append_zero ht hu hd hi hl0 hf0 hc
    cases v0 <;> simp only [reduceCtorEq] at h
    case nils =>
      cases h
      have hr : Rep fm g1 s.n .nils (a.eval x') := q5
      refine ⟨a.eval x', w, g1, ?_, q1, q2, Nat.le_refl _, q3, q4, q5⟩
      generalize hv : a.eval x' = cx at hr
      cases hr
      rw [← hv]
      exact key none 0 0 hv (Nat.le_refl _)
    case sl cs len o =>
      cases h
      refine ⟨a.eval x', w, g1, ?_, q1, q2, Nat.le_refl _, q3, q4, q5⟩
      have hr := q5.strip
      have : ∃ o', (AVal.sl cs len o).strip = .sl cs len o' := by cases o <;> exact ⟨_, rfl⟩
      obtain ⟨o', ho'⟩ := this
      rw [ho'] at hr
      generalize hv : a.eval x' = cx at hr
      cases hr with
      | sl0 ad cap =>
        rw [← hv]
        exact key _ _ _ hv (Nat.zero_le _)
      | sl _ _ _ b base cap vs ho hc hR hp =>
      rw [← hv]
      exact key _ _ _ hv hc
  · rename_i hk
    obtain ⟨⟨cs, m, A1, s1⟩, hbase, h⟩ := bind_some' h
    simp only at h
    split at h
    · rename_i hc
      obtain ⟨hlim, hcl, hnl, hone⟩ := hc
      cases h
      obtain ⟨hn1, g1, q1, q2, q3, q4, q5⟩ := base_sound hS hF hx hbase
      have hyr1 := hyr.mono q2 (Nat.le_refl _)
      rw [← hn1] at hyr1
      obtain ⟨news, hlen, hfst, hnR⟩ := new_run (P := P) (w := w) (d := d) (t := t) (e := e) q1 hyr1 hnew hnl
      rw [hn1] at hnR
      have hnln : news.length = k * i.size := by rw [← hnR.length]; exact hnl
      have hone' : ∀ v ∈ news, v.oneCell' = true := by
        intro v hv
        obtain ⟨j, hj, rfl⟩ := List.mem_iff_getElem.1 hv
        have hj2 : j < new.length := by rw [hnR.length]; exact hj
        obtain ⟨u, hu1, hu2⟩ := hnR.get j new[j] (by simp [hj2])
        have : u = news[j] := by
          rw [List.getElem?_eq_getElem hj] at hu1
          exact (Option.some.inj hu1).symm
        rw [← this]
        exact one_cell hu2 (List.all_eq_true.1 hone _ (List.getElem_mem hj2))
      -- a new row
      have out : ∀ (base : Option Addr) (sCap : Nat) (olds : List Value), a.eval x' = .slice base m sCap → RepL fm g1 s.n cs olds →
          (∀ wx : World, wx.heap = w.heap → (Builtin.firstCells i.size m (.slice base m sCap)).run P wx = .ok olds.toArray wx) → sCap < m + k →
          ∃ cv w' g', (Builtin.append_ #[t, u] ty #[a.eval x', a.eval y']).run P w = .ok cv w' ∧ Post fm nt g w s s' A' a.tmps (.sl (cs ++ new) (m + k) (.mine i.size)) cv g' w' := by
        intro base sCap olds he hRo hfo hgrow
        have hrun := run_append_out (ty := ty) (x := a.eval y') ht hu hd hi hz hlen (hfst w.drew rfl) (hfo w.drew rfl) hlim hb hgrow
        rw [← he] at hrun
        generalize hcap : grownCap w (m + k) sCap e = cap at hrun
        have hcap' : m + k ≤ cap := by rw [← hcap]; exact grownCap_ge w _ _ _
        have hq1 : Sim fm s' g1 w.drew := q1.heap rfl
        have hol : olds.length = m * i.size := by rw [← hRo.length]; exact hcl
        obtain ⟨p1, p2, p3, p4⟩ := newRow_sound (nt := nt) (vs := olds ++ news) (rest := (Builtin.zeroCells z.cells (cap - (m + k))).toList) (elem := e) hq1 (by rw [hn1]; exact q4)
        have hsize : w.drew.heap.size = w.heap.size := rfl
        rw [hsize] at p1 p2 p3 p4
        rw [hn1] at p2 p4
        refine ⟨_, _, _, hrun, p1, q2.trans p2, by omega, ?_, by rw [hn1]; exact p4, ?_⟩
        · refine ⟨?_, p3.os.trans q3.os, p3.out.trans q3.out, fun x q hx => (p3.mst x q (by rw [(q3.blk x q hx).1.1, hx])).trans (q3.mst x q hx)⟩
          intro b q hb
          obtain ⟨e1, e2⟩ := q3 b q hb
          obtain ⟨e3, e4⟩ := p3 b q (by rw [e1.1, hb])
          exact ⟨e1.trans e3, e4⟩
        · rw [hn1]
          refine ⟨w.heap.size, 0, cap, olds ++ news, rfl, hcap', (hRo.append hnR).mono p2 (Nat.le_refl _), by simp [Gh.newRow], ?_, ?_, by simp [Gh.newRow]⟩
          · simp [Gh.newRow, hol, hnln, hcl, hnl]
          · simp only [Gh.newRow, if_true, List.length_append, Array.length_toList, size_zeroCells, hol, hnln, hzs, Nat.zero_add]
            rw [← Nat.add_mul, ← Nat.add_mul]
            exact Nat.mul_le_mul_right _ (by omega)
      rcases q5 with ⟨e1, rfl, rfl⟩ | hr | hr
      · exact out none 0 [] e1 .nil (fun wx _ => by simp [Builtin.firstCells]) (by omega)
      · generalize hv : a.eval x' = cx at hr
        cases hr with
        | sl _ _ _ b base cap vs ho hc hR hp =>
        rcases ho with ho | ⟨_, rfl⟩
        · cases ho
        · refine hv ▸ out (some ⟨b, base, none⟩) cap vs hv hR (fun wx hwx => ?_) (by omega)
          have := run_loadCells_list (P := P) (w := wx) ⟨b, base, none⟩ vs (fun j v hj => by
            rw [add_mk]
            have := q1.cell hp hj
            simpa [World.cell?, hwx] using this)
          simp only [Builtin.firstCells]
          rw [← hcl, hR.length]
          exact this
      · obtain ⟨b, base, cap, vs, e1, e2, e3, e4, e5, e6, e7⟩ := hr
        have hvl : vs.length = m * i.size := by rw [← e3.length]; exact hcl
        by_cases hroom : m + k ≤ cap
        · -- in place
          obtain ⟨cur, el, fr, r1, r2, r3, r4⟩ := q1.st b (.inr (by rw [e7]; rfl))
          have hfr := r4 (by rw [e7]; rfl)
          subst hfr
          have hstl : (g1.st b).length = base + m * i.size := by rw [← e5, hcl]
          have hfit : (g1.st b).length + news.length ≤ cur.size := by
            rw [hstl, hnln, r3, Nat.add_assoc, ← Nat.add_mul]
            exact Nat.le_trans (Nat.add_le_add_left (Nat.mul_le_mul_right _ hroom) _) e6
          have hrun := run_append_in (ty := ty) (x := a.eval y') (b := b) (off := base) (sLen := m) (sCap := cap) ht hu hd hi hlen (hfst w rfl) r1 hone' hroom (by rw [← hstl]; exact hfit)
          rw [← e1, ← hstl] at hrun
          obtain ⟨p1, p2, p3, p4⟩ := longer_sound (nt := nt) (news := news) q1 (by rw [hn1]; exact q4) e7 r1 hfit
          rw [hn1] at p2 p4
          refine ⟨_, _, _, hrun, p1, q2.trans p2, by omega, ?_, by rw [hn1]; exact p4, ?_⟩
          · refine ⟨?_, p3.os.trans q3.os, p3.out.trans q3.out, fun x q hx => (p3.mst x q (by rw [(q3.blk x q hx).1.1, hx])).trans (q3.mst x q hx)⟩
            intro x q hx
            obtain ⟨f1, f2⟩ := q3 x q hx
            obtain ⟨f3, f4⟩ := p3 x q (by rw [f1.1, hx])
            exact ⟨f1.trans f3, f4⟩
          · rw [hn1]
            refine ⟨b, base, cap, vs ++ news, rfl, hroom, (e3.append hnR).mono p2 (Nat.le_refl _), ?_, ?_, e6, e7⟩
            · simp only [Gh.longer, if_true]
              have : g1.st b = (g1.st b).take base ++ vs := by
                obtain ⟨tl, htl⟩ := e4
                have hln := congrArg List.length htl
                simp only [List.length_append, List.length_drop] at hln
                have : tl = [] := List.length_eq_zero_iff.1 (by omega)
                rw [this, List.append_nil] at htl
                rw [htl]
                exact (List.take_append_drop base (g1.st b)).symm
              rw [List.drop_append_of_le_length (by omega)]
              have h2 : (g1.st b).drop base = vs := by
                have h3 := congrArg (List.drop base) this
                rw [List.drop_append_of_le_length (by simp; omega)] at h3
                rw [h3]
                simp
              rw [h2]
              exact List.prefix_refl _
            · simp only [Gh.longer, if_true, List.length_append]
              rw [hstl, hnln, hcl, hnl]
              omega
        · refine out (some ⟨b, base, none⟩) cap vs e1 e3 (fun wx hwx => ?_) (by omega)
          have := run_loadCells_list (P := P) (w := wx) ⟨b, base, none⟩ vs (fun j v hj => by
            rw [add_mk]
            have := q1.cell e4 hj
            simpa [World.cell?, hwx] using this)
          simp only [Builtin.firstCells]
          rw [← hcl, e3.length]
          exact this
    · cases h

end
end Go.Proofs.YtdhgdpokdhjanaaGreat.Abs
