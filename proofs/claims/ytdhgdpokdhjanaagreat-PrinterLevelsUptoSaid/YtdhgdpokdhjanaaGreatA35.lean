/- (*strings.Builder).WriteString and String: what they say of the memory, exactly; and that the abstract builder is served by it. -/
import Derived.Test.YtdhgdpokdhjanaaGreatA28
import Derived.Shelf.Strings.BuilderK
set_option linter.unusedSimpArgs false
set_option linter.unusedVariables false
namespace Go.Proofs.YtdhgdpokdhjanaaGreat.Abs
open Go Go.RowKit

def ptrTo (b : Nat) : Value := .pointer (some ⟨b, 0, none⟩)

/-- What WriteString does. -/
def WriteSaid (P : Program) (f T u8 : Nat) : Prop := ∀ (b : Nat) (p v : Value) (x : List UInt8) (s : ByteArray) (w : World), w.heap[b]? = some (.cells #[p, v] T (0, 0)) → (p = .pointer none ∨ p = ptrTo b) →
    w.ownsRowF 0 u8 1 v x.length (Lib.byteCells x) → v.ownBlock ≠ some b → x.length + s.size ≤ 140737488355328 →
    Calls P f #[ptrTo b, .string s] w fun e w' => e = .returned (.tuple #[.int .i64 s.size, .nilIface]) ∧ ∃ v', w'.heap[b]? = some (.cells #[ptrTo b, v'] T (0, 0)) ∧
      w'.ownsRowF 0 u8 1 v' (x.length + s.size) (Lib.byteCells x ++ Lib.strCells s) ∧ v'.ownBlock ≠ some b ∧ (v'.ownBlock = v.ownBlock ∨ ∀ k, v'.ownBlock = some k → w.heap.size ≤ k) ∧
      (∀ k, k < w.heap.size → k ≠ b → some k ≠ v.ownBlock → w'.heap[k]? = w.heap[k]?) ∧ w'.os = w.os ∧ w'.output = w.output ∧ w.heap.size ≤ w'.heap.size

/-- What String does, of a builder that holds a byte. -/
def StringSaid (P : Program) (f T u8 : Nat) : Prop := ∀ (b : Nat) (p v : Value) (x : List UInt8) (w : World), w.heap[b]? = some (.cells #[p, v] T (0, 0)) → x ≠ [] →
    w.ownsRowF 0 u8 1 v x.length (Lib.byteCells x) → v.ownBlock ≠ some b →
    Calls P f #[ptrTo b] w fun e w' => e = .returned (.string ⟨x.toArray⟩) ∧ w'.ownsRowF 0 u8 1 v x.length (Lib.byteCells x) ∧
      (∀ k, some k ≠ v.ownBlock → w'.heap[k]? = w.heap[k]?) ∧ w'.os = w.os ∧ w'.output = w.output ∧ w'.heap.size = w.heap.size

def extWrite : List AVal → ASt → Option (AVal × ASt)
  | [.ref r 0, .str l], s => match s.get r with
    | some (.bld x) => if x.length + l.length ≤ limit then some (.tup [.int .i64 l.length, .nili], s.set r (.bld (x ++ l))) else none
    | _ => none
  | _, _ => none
def extString : List AVal → ASt → Option (AVal × ASt)
  | [.ref r 0], s => match s.get r with
    | some (.bld x) => if x.isEmpty then none else some (.str x, s)
    | _ => none
  | _, _ => none

section
variable {P : Program} {fm : Nat → Nat} {g : Gh} {s : ASt} {w w' : World}

theorem bld_row {r b : Nat} {l : List UInt8} (h : ObjRep fm g w r b (.bld l)) (hne : ∀ k, g.own k = .buf r → k ≠ b) : ∃ p v, w.heap[b]? = some (.cells #[p, v] (fm 1000000) (0, 0)) ∧ (p = .pointer none ∨ p = ptrTo b) ∧
    w.ownsRowF 0 (fm 1000001) 1 v l.length (Lib.byteCells l) ∧ v.ownBlock ≠ some b ∧ (∀ k, v.ownBlock = some k → g.own k = .buf r ∧ g.st k = [] ∧ ∃ c e fr, w.heap[k]? = some (.cells c e fr)) := by
  obtain ⟨p, v, h1, h2, h3⟩ := h
  refine ⟨p, v, h1, h2, ?_, ?_, ?_⟩
  · refine ⟨by simp [Lib.byteCells], ?_⟩
    rcases h3 with ⟨rfl, rfl⟩ | ⟨b2, cap, cur, fz, rfl, _, _, q3, q4, q5, q6, q7, q8⟩
    · exact .inl ⟨rfl, rfl⟩
    · exact .inr ⟨b2, cap, cur, fz, rfl, Nat.zero_le _, q3, by simpa using q4, q5, q6, by simpa using q7, by simpa [Lib.byteCells] using q8⟩
  · rcases h3 with ⟨rfl, rfl⟩ | ⟨b2, cap, cur, fz, rfl, q2, _⟩
    · simp [Value.ownBlock]
    · simp only [Value.ownBlock, ne_eq, Option.some.injEq]
      exact hne b2 q2
  · intro k hk
    rcases h3 with ⟨rfl, rfl⟩ | ⟨b2, cap, cur, fz, rfl, q2, q0, q3, _⟩
    · simp [Value.ownBlock] at hk
    · simp only [Value.ownBlock, Option.some.injEq] at hk
      subst hk
      exact ⟨q2, q0, _, _, _, q3⟩

theorem row_bld {r b : Nat} {l : List UInt8} {p v : Value} (h1 : w.heap[b]? = some (.cells #[p, v] (fm 1000000) (0, 0))) (h2 : p = .pointer none ∨ p = ptrTo b) (h3 : w.ownsRowF 0 (fm 1000001) 1 v l.length (Lib.byteCells l))
    (hb : ∀ k, v.ownBlock = some k → g.own k = .buf r ∧ g.st k = []) : ObjRep fm g w r b (.bld l) := by
  refine ⟨p, v, h1, h2, ?_⟩
  rcases h3.2 with ⟨rfl, h0⟩ | ⟨b2, cap, cur, fz, rfl, _, q3, q4, q5, q6, q7, q8⟩
  · exact .inl ⟨rfl, List.length_eq_zero_iff.1 h0⟩
  · exact .inr ⟨b2, cap, cur, fz, rfl, (hb b2 rfl).1, (hb b2 rfl).2, q3, by simpa using q4, q5, q6, by simpa using q7, by simpa [Lib.byteCells] using q8⟩

theorem setL_id : ∀ {os : List AObj} {n r : Nat} {o : AObj}, getL os n r = some o → setL os n r o = os
  | [], _, _, _, h => by simp [getL] at h
  | _ :: _, 0, _, _, h => by simp [getL] at h
  | x :: os, n + 1, r, o, h => by
    simp only [getL, setL] at h ⊢
    split at h
    · rename_i e
      cases h
      rw [if_pos e]
    · rename_i e
      rw [if_neg e, setL_id h]
theorem set_same {r : Nat} {o : AObj} (h : s.get r = some o) : s.set r o = s := by
  simp only [ASt.set, setL_id h]

/-- A step that touches a builder and its row alone. -/
theorem Sim.bld {r b : Nat} {x y : List UInt8} {v : Value} {g' : Gh} (hS : Sim fm s g w) (hr : s.get r = some (.bld x)) (hb : g.obj r = some b) (hle : g' = { g with own := g'.own })
    (hown : ∀ k, k < w.heap.size → g'.own k = g.own k) (hfree : ∀ k, w.heap.size ≤ k → g'.own k = .free ∨ (g'.own k = .buf r ∧ k < w'.heap.size))
    (hv : ∀ k, v.ownBlock = some k → g.own k = .buf r ∧ g.st k = [] ∧ ∃ c e fr, w.heap[k]? = some (.cells c e fr))
    (hobj : ObjRep fm g' w' r b (.bld y)) (hfix : ∀ k, k < w.heap.size → k ≠ b → some k ≠ v.ownBlock → w'.heap[k]? = w.heap[k]?) (hsz : w.heap.size ≤ w'.heap.size) :
    Sim fm (s.set r (.bld y)) g' w' := by
  obtain ⟨o1, o2, o3, o4, o5⟩ := hS.objn r b hb
  have ho : g'.obj = g.obj := by rw [hle]
  have hst : g'.st = g.st := by rw [hle]
  have hms : g'.mst = g.mst := by rw [hle]
  have hvc : g'.vec = g.vec := by rw [hle]
  have hsz' : g'.sz = g.sz := by rw [hle]
  have hleq : ∀ n, le n g g' := fun n => ⟨fun r _ b e => by rw [ho]; exact e, fun b => by rw [hst]; exact List.prefix_refl _, fun b x e => by rw [hms]; exact e, fun r _ c x k e => ⟨x, k, by rw [hvc]; exact e, Nat.le_refl _, fun _ => rfl⟩⟩
  have hlt : ∀ k t, g.own k = t → t ≠ .free → k < w.heap.size := fun k t h1 h2 => by
    rcases Nat.lt_or_ge k w.heap.size with h | h
    · exact h
    · exact absurd ((hS.fresh k h).1.symm.trans h1).symm h2
  have keep : ∀ k t, g.own k = t → t ≠ .free → t ≠ .obj r → t ≠ .buf r → g'.own k = t ∧ w'.heap[k]? = w.heap[k]? := by
    intro k t h1 h2 h3 h4
    have hk := hlt k t h1 h2
    refine ⟨by rw [hown k hk, h1], hfix k hk (fun e => ?_) (fun e => ?_)⟩
    · subst e
      rw [o2] at h1
      exact h3 h1.symm
    · rw [(hv k e.symm).1] at h1
      exact h4 h1.symm
  refine ⟨by simp [ASt.set, setL_length, hS.size], ?_, ?_, ?_, ?_, ?_⟩
  · intro q o hq b' hb'
    rw [ho] at hb'
    by_cases e : q = r
    · subst e
      rw [ASt.get_set_same hr] at hq
      cases hq
      rw [hb] at hb'
      cases hb'
      exact hobj
    · rw [ASt.get_set_other e] at hq
      obtain ⟨_, p2, p3, _⟩ := hS.objn q b' hb'
      refine (hS.objs q o hq b' hb').mono (hleq _) (fun c i hc => ?_) (fun c => by rw [hvc]) ?_ (fun c hc => ?_)
      · obtain ⟨h1, _⟩ := keep c _ hc (by simp) (by simp) (by simp)
        exact ⟨by rw [h1, hc], by rw [hst], by rw [hsz']⟩
      · exact (keep b' _ p2 (by simp) (by simp [e]) (by simp)).2
      · obtain ⟨k1, k2⟩ := keep c _ hc (by simp) (by simp) (by simp [e])
        exact ⟨k1, by rw [hst], k2⟩
  · intro q b' hb'
    rw [ho] at hb'
    obtain ⟨p1, p2, p3, p4, p5⟩ := hS.objn q b' hb'
    exact ⟨by simpa [ASt.set] using p1, by rw [hown b' p3, p2], by omega, by rw [hst]; exact p4, by rw [hms]; exact p5⟩
  · intro k hk
    rw [hst] at hk ⊢
    rw [hsz']
    have hheld : (g'.own k).held = true → (g.own k).held = true ∧ k < w.heap.size := fun h => by
      rcases Nat.lt_or_ge k w.heap.size with h1 | h1
      · rw [hown k h1] at h; exact ⟨h, h1⟩
      · rcases hfree k h1 with h2 | ⟨h2, _⟩ <;> rw [h2] at h <;> simp [Tag.held] at h
    obtain ⟨c, elem, fr, h1, h2, h3, h4⟩ := hS.st k (hk.imp id (fun h => (hheld h).1))
    have hklt : k < w.heap.size := (Array.getElem?_eq_some_iff.1 h1).1
    have hkb : k ≠ b := fun e => by
      subst e
      rcases hk with hk | hk
      · exact hk o4
      · have := (hheld hk).1
        rw [o2] at this
        simp [Tag.held] at this
    have hown' := hown k hklt
    rw [hown'] at hk ⊢
    by_cases hkv : some k = v.ownBlock
    · obtain ⟨hbuf, hst0, _⟩ := hv k hkv.symm
      rcases hk with hk | hk
      · exact absurd hst0 hk
      · rw [hbuf] at hk; simp [Tag.held] at hk
    · exact ⟨c, elem, fr, by rw [hfix k hklt hkb hkv]; exact h1, h2, h3, h4⟩
  · intro k ks vs hk
    rw [hms] at hk
    obtain ⟨es, clock, h1, h2⟩ := hS.mst k ks vs hk
    have hklt : k < w.heap.size := (Array.getElem?_eq_some_iff.1 h1).1
    have hkb : k ≠ b := fun e => by subst e; rw [o5] at hk; cases hk
    have hkv : some k ≠ v.ownBlock := fun e => by
      obtain ⟨_, _, c, e, fr, h3⟩ := hv k e.symm
      rw [h1] at h3
      cases h3
    exact ⟨es, clock, by rw [hfix k hklt hkb hkv]; exact h1, h2⟩
  · intro k hk
    obtain ⟨e1, e2, e3⟩ := hS.fresh k (by omega)
    refine ⟨?_, by rw [hst]; exact e2, by rw [hms]; exact e3⟩
    rcases hfree k (by omega) with h | ⟨_, h⟩
    · exact h
    · omega

theorem kept_bld {r b : Nat} {v : Value} {g' : Gh} (hS : Sim fm s g w) (hb : g.obj r = some b) (hle : g' = { g with own := g'.own })
    (hown : ∀ k, k < w.heap.size → g'.own k = g.own k) (hv : ∀ k, v.ownBlock = some k → g.own k = .buf r ∧ g.st k = [] ∧ ∃ c e fr, w.heap[k]? = some (.cells c e fr))
    (hfix : ∀ k, k < w.heap.size → k ≠ b → some k ≠ v.ownBlock → w'.heap[k]? = w.heap[k]?) (hos : w'.os = w.os) (hout : w'.output = w.output) : Kept g g' w w' := by
  obtain ⟨o1, o2, o3, o4, o5⟩ := hS.objn r b hb
  have hlt : ∀ k x, g.own k = .other x → k < w.heap.size := fun k x h1 => by
    rcases Nat.lt_or_ge k w.heap.size with h | h
    · exact h
    · have := (hS.fresh k h).1
      rw [h1] at this
      cases this
  refine ⟨fun k x hk => ?_, hos, hout, fun k x hk => by rw [hle]⟩
  have h := hlt k x hk
  refine ⟨⟨hown k h, by rw [hle], by rw [hle]⟩, hfix k h (fun e => ?_) (fun e => ?_)⟩
  · subst e; rw [o2] at hk; cases hk
  · rw [(hv k e.symm).1] at hk; cases hk

theorem write_sound {f : Nat} (hW : WriteSaid P f (fm 1000000) (fm 1000001)) {args : List AVal} {v : AVal} {s' : ASt} (h : extWrite args s = some (v, s')) (hS : Sim fm s g w) {vs : Array Value} (hR : RepL fm g s.n args vs.toList) (m : Nat) :
    CallsIn (FW none) m P f vs w (CallPost fm g w s s' v) := by
  unfold extWrite at h
  split at h
  · rename_i r l
    split at h
    · rename_i x hr
      split at h
      · rename_i hlim
        cases h
        generalize hvs : vs.toList = vl at hR
        cases hR with
        | cons _ v1 _ _ h1 ht =>
        cases ht with
        | cons _ v2 _ _ h2 ht =>
        cases ht with
        | nil =>
        obtain rfl : vs = #[v1, v2] := Array.ext' hvs
        cases h1 with
        | ref _ _ b hlt hb =>
        cases h2
        have hO := hS.objs r _ hr b hb
        obtain ⟨o1, o2, o3, o4, o5⟩ := hS.objn r b hb
        obtain ⟨p, rv, q1, q2, q3, q4, q5⟩ := bld_row hO (fun k hk e => by subst e; rw [o2] at hk; cases hk)
        have hsz : (⟨l.toArray⟩ : ByteArray).size = l.length := by simp [ByteArray.size]
        have hc := hW b p rv x ⟨l.toArray⟩ w q1 q2 q3 q4 (by rw [hsz]; unfold limit at hlim; omega)
        refine CallsIn.mono (F := FW none) (show CallsIn (FW none) m P f _ w _ from callsIn_wide.2 hc) ?_
        rintro e w' ⟨rfl, v', c1, c2, c3, c4, c5, c6, c7, c8⟩
        rw [hsz] at c2
        have hcells : Lib.byteCells x ++ Lib.strCells ⟨l.toArray⟩ = Lib.byteCells (x ++ l) := by
          simp [Lib.byteCells, Lib.strCells]
        rw [hcells, ← List.length_append] at c2
        let g' : Gh := { g with own := fun k => if w.heap.size ≤ k ∧ v'.ownBlock = some k then .buf r else g.own k }
        have hown : ∀ k, k < w.heap.size → g'.own k = g.own k := fun k hk => by
          show (if _ then _ else _) = _
          rw [if_neg (by omega)]
        have hnew : ∀ k, v'.ownBlock = some k → g'.own k = .buf r ∧ g'.st k = [] := fun k hk => by
          rcases c4 with c4 | c4
          · obtain ⟨d1, d2, d3⟩ := q5 k (by rw [← c4]; exact hk)
            refine ⟨?_, d2⟩
            show (if _ then _ else _) = _
            split
            · rfl
            · exact d1
          · have hge := c4 k hk
            refine ⟨?_, (hS.fresh k hge).2.1⟩
            show (if _ then _ else _) = _
            rw [if_pos ⟨hge, hk⟩]
        have hfree : ∀ k, w.heap.size ≤ k → g'.own k = .free ∨ (g'.own k = .buf r ∧ k < w'.heap.size) := fun k hk => by
          by_cases e : v'.ownBlock = some k
          · exact .inr ⟨(hnew k e).1, (c2.lt k e).2⟩
          · left
            show (if _ then _ else _) = _
            rw [if_neg (by simp [e])]
            exact (hS.fresh k hk).1
        have hS' : Sim fm (s.set r (.bld (x ++ l))) g' w' := hS.bld hr hb rfl hown hfree q5 (row_bld c1 (.inr rfl) c2 hnew) c5 c8
        refine ⟨_, g', rfl, hS', ⟨fun _ _ _ e => e, fun _ => List.prefix_refl _, fun _ _ e => e, fun _ _ _ h k e => ⟨h, k, e, Nat.le_refl _, fun _ => rfl⟩⟩, Nat.le_refl _, kept_bld hS hb rfl hown q5 c5 c6 c7, Rep.slot ?_⟩
        rw [hsz]
        exact .tup _ _ (.cons _ _ _ _ (.int _ _) (.cons _ _ _ _ .nili .nil))
      · cases h
    · cases h
  · cases h

theorem string_sound {f : Nat} (hW : StringSaid P f (fm 1000000) (fm 1000001)) {args : List AVal} {v : AVal} {s' : ASt} (h : extString args s = some (v, s')) (hS : Sim fm s g w) {vs : Array Value} (hR : RepL fm g s.n args vs.toList) (m : Nat) :
    CallsIn (FW none) m P f vs w (CallPost fm g w s s' v) := by
  unfold extString at h
  split at h
  · rename_i r
    split at h
    · rename_i x hr
      split at h
      · cases h
      · rename_i hne
        cases h
        generalize hvs : vs.toList = vl at hR
        cases hR with
        | cons _ v1 _ _ h1 ht =>
        cases ht with
        | nil =>
        obtain rfl : vs = #[v1] := Array.ext' hvs
        cases h1 with
        | ref _ _ b hlt hb =>
        have hO := hS.objs r _ hr b hb
        obtain ⟨o1, o2, o3, o4, o5⟩ := hS.objn r b hb
        obtain ⟨p, rv, q1, q2, q3, q4, q5⟩ := bld_row hO (fun k hk e => by subst e; rw [o2] at hk; cases hk)
        have hc := hW b p rv x w q1 (by intro e; subst e; simp at hne) q3 q4
        refine CallsIn.mono (F := FW none) (show CallsIn (FW none) m P f _ w _ from callsIn_wide.2 hc) ?_
        rintro e w' ⟨rfl, c2, c5, c6, c7, c8⟩
        have hS' : Sim fm (s.set r (.bld x)) g w' := hS.bld (g' := g) (v := rv) hr hb rfl (fun _ _ => rfl) (fun k hk => .inl (hS.fresh k hk).1) q5
          (row_bld (by rw [c5 b (fun e => q4 e.symm)]; exact q1) q2 c2 (fun k hk => ⟨(q5 k hk).1, (q5 k hk).2.1⟩)) (fun k _ _ hk => c5 k hk) (by omega)
        have hset : s.set r (.bld x) = s := set_same hr
        rw [hset] at hS'
        exact ⟨_, g, rfl, hS', le.refl _ _, Nat.le_refl _, kept_bld (v := rv) hS hb rfl (fun _ _ => rfl) q5 (fun k _ _ hk => c5 k hk) c6 c7, Rep.slot (.str _)⟩
    · cases h
  · cases h

end
end Go.Proofs.YtdhgdpokdhjanaaGreat.Abs
