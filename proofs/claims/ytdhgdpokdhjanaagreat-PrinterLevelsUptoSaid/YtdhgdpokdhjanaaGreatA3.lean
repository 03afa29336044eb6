/- How the abstract values lie in memory. -/
import Derived.Test.YtdhgdpokdhjanaaGreatA2
import Derived.CallsIn
set_option linter.unusedSimpArgs false
set_option linter.unusedVariables false
namespace Go.Proofs.YtdhgdpokdhjanaaGreat.Abs
open Go

/-- Whose a block is. -/
inductive Tag where
  | free
  | obj (r : Nat)
  | cell (r c : Nat)
  | slot (d : Nat)
  | buf (r : Nat)
  | res
  | other (h : Bool)
  deriving DecidableEq, Inhabited

/-- obj: the block of an object. own: whose the places behind the steady ones are. st: the steady cells of a block, from its head on. mst: the keys and values of a steady map. vec: the slice with spare places that a cell of an object holds, or held last. sz: the number of cells. -/
structure Gh where
  obj : Nat → Option Nat
  own : Nat → Tag
  st : Nat → List Value
  mst : Nat → Option (List Value × List Value)
  vec : Nat → Nat → Option (Value × Nat)
  sz : Nat → Nat
  deriving Inhabited

variable (fm : Nat → Nat)

mutual
inductive Rep (g : Gh) (n : Nat) : AVal → Value → Prop
  | undef (v : Value) : Rep g n .undef v
  | bool (b : Bool) : Rep g n (.bool b) (.bool b)
  | int (k : IntKind) (i : Int) : Rep g n (.int k i) (.int k i)
  | str (l : List UInt8) : Rep g n (.str l) (.string ⟨l.toArray⟩)
  | nilp : Rep g n .nilp (.pointer none)
  | nils : Rep g n .nils (.slice none 0 0)
  | nilm : Rep g n .nilm (.map none)
  | nilf : Rep g n .nilf .nilFunc
  | nili : Rep g n .nili .nilIface
  | ref (r off b : Nat) (hr : r < n) (hb : g.obj r = some b) : Rep g n (.ref r off) (.pointer (some ⟨b, off, none⟩))
  | ipt (cs : List AVal) (off b base : Nat) (vs : List Value) (h : RepL g n cs vs) (hp : vs <+: (g.st b).drop base) : Rep g n (.ipt cs off) (.pointer (some ⟨b, base + off, none⟩))
  | sl (cs : List AVal) (len : Nat) (o : Own) (b base cap : Nat) (vs : List Value) (ho : o = .none ∨ (o = .exact ∧ cap = len)) (hc : len ≤ cap) (h : RepL g n cs vs)
      (hp : vs <+: (g.st b).drop base) : Rep g n (.sl cs len o) (.slice (some ⟨b, base, none⟩) len cap)
  | sl0 (a : Addr) (cap : Nat) : Rep g n (.sl [] 0 .none) (.slice (some a) 0 cap)
  | map (r b : Nat) (hr : r < n) (hb : g.obj r = some b) : Rep g n (.map r) (.map (some b))
  | imap (ks vs : List AVal) (b : Nat) (cks cvs : List Value) (hb : g.mst b = some (cks, cvs)) (hk : RepL g n ks cks) (hv : RepL g n vs cvs) : Rep g n (.imap ks vs) (.map (some b))
  | imapU (ks vs ks0 vs0 : List AVal) (b : Nat) (cks cvs : List Value) (hb : g.mst b = some (cks, cvs)) (hk : RepL g n ks0 cks) (hv : RepL g n vs0 cvs) (hf : ∀ kt k, find kt k ks vs = find kt k ks0 vs0)
      (hu : ∀ m, underL m ks = true ∧ underL m vs = true ∧ underL m ks0 = true ∧ underL m vs0 = true) : Rep g n (.imap ks vs) (.map (some b))
  | fn (f : Nat) (xs ys : List AVal) (us vs : List Value) (h1 : RepL g n xs us) (h2 : RepL g n ys vs) (hf : fm f < 1000000) : Rep g n (.fn f xs ys) (.func (.func (fm f)) us.toArray vs.toArray)
  | yld (f l : Nat) (hf : fm f = 1000000 + l) : Rep g n (.fn f [] []) (.func (.yield l) #[] #[])
  | agg (cs : List AVal) (vs : List Value) (h : RepL g n cs vs) : Rep g n (.agg cs) (.agg vs.toArray)
  | tup (cs : List AVal) (vs : List Value) (h : RepL g n cs vs) : Rep g n (.tup cs) (.tuple vs.toArray)
inductive RepL (g : Gh) (n : Nat) : List AVal → List Value → Prop
  | nil : RepL g n [] []
  | cons (a : AVal) (v : Value) (cs : List AVal) (vs : List Value) (h : Rep g n a v) (t : RepL g n cs vs) : RepL g n (a :: cs) (v :: vs)
end

/-- What the values with objects below n lean on stands. -/
structure le (n : Nat) (g g' : Gh) : Prop where
  obj : ∀ r, r < n → ∀ b, g.obj r = some b → g'.obj r = some b
  st : ∀ b, g.st b <+: g'.st b
  mst : ∀ b x, g.mst b = some x → g'.mst b = some x
  vec : ∀ r, r < n → ∀ c h k, g.vec r c = some (h, k) → ∃ h' k', g'.vec r c = some (h', k') ∧ k ≤ k' ∧ (k = k' → h = h')

variable {fm}

theorem le.refl (n : Nat) (g : Gh) : le n g g :=
  ⟨fun _ _ _ h => h, fun _ => List.prefix_refl _, fun _ _ h => h, fun _ _ _ h k e => ⟨h, k, e, Nat.le_refl _, fun _ => rfl⟩⟩

theorem le.trans {n : Nat} {g g' g'' : Gh} (h : le n g g') (h' : le n g' g'') : le n g g'' := by
  refine ⟨fun r hr b e => h'.obj r hr b (h.obj r hr b e), fun b => (h.st b).trans (h'.st b), fun b x e => h'.mst b x (h.mst b x e), fun r hr c x k e => ?_⟩
  obtain ⟨x1, k1, e1, l1, f1⟩ := h.vec r hr c x k e
  obtain ⟨x2, k2, e2, l2, f2⟩ := h'.vec r hr c x1 k1 e1
  exact ⟨x2, k2, e2, by omega, fun e => by rw [f1 (by omega), f2 (by omega)]⟩

theorem le.less {n m : Nat} {g g' : Gh} (h : le n g g') (hm : m ≤ n) : le m g g' :=
  ⟨fun r hr => h.obj r (by omega), h.st, h.mst, fun r hr => h.vec r (by omega)⟩

theorem prefix_drop {α : Type} {a b vs : List α} {k : Nat} (h : a <+: b) (hv : vs <+: a.drop k) : vs <+: b.drop k := by
  obtain ⟨t, rfl⟩ := h
  by_cases hk : k ≤ a.length
  · rw [List.drop_append_of_le_length hk]
    exact hv.trans (List.prefix_append _ _)
  · rw [List.drop_of_length_le (by omega)] at hv
    rw [List.prefix_nil.1 hv]
    exact List.nil_prefix

mutual
theorem Rep.mono {g g' : Gh} {n n' : Nat} (hg : le n g g') (hn : n ≤ n') : ∀ {a : AVal} {v : Value}, Rep fm g n a v → Rep fm g' n' a v
  | _, _, .undef v => .undef v
  | _, _, .bool b => .bool b
  | _, _, .int k i => .int k i
  | _, _, .str l => .str l
  | _, _, .nilp => .nilp
  | _, _, .nils => .nils
  | _, _, .nilm => .nilm
  | _, _, .nilf => .nilf
  | _, _, .nili => .nili
  | _, _, .ref r off b hr hb => .ref r off b (by omega) (hg.obj r hr b hb)
  | _, _, .ipt cs off b base vs h hp => .ipt cs off b base vs (RepL.mono hg hn h) (prefix_drop (hg.st b) hp)
  | _, _, .sl cs len o b base cap vs ho hc h hp => .sl cs len o b base cap vs ho hc (RepL.mono hg hn h) (prefix_drop (hg.st b) hp)
  | _, _, .sl0 a cap => .sl0 a cap
  | _, _, .map r b hr hb => .map r b (by omega) (hg.obj r hr b hb)
  | _, _, .imap ks vs b cks cvs hb hk hv => .imap ks vs b cks cvs (hg.mst b _ hb) (RepL.mono hg hn hk) (RepL.mono hg hn hv)
  | _, _, .imapU ks vs ks0 vs0 b cks cvs hb hk hv hf hu => .imapU ks vs ks0 vs0 b cks cvs (hg.mst b _ hb) (RepL.mono hg hn hk) (RepL.mono hg hn hv) hf hu
  | _, _, .fn f xs ys us vs h1 h2 hf => .fn f xs ys us vs (RepL.mono hg hn h1) (RepL.mono hg hn h2) hf
  | _, _, .yld f l hf => .yld f l hf
  | _, _, .agg cs vs h => .agg cs vs (RepL.mono hg hn h)
  | _, _, .tup cs vs h => .tup cs vs (RepL.mono hg hn h)
theorem RepL.mono {g g' : Gh} {n n' : Nat} (hg : le n g g') (hn : n ≤ n') : ∀ {cs : List AVal} {vs : List Value}, RepL fm g n cs vs → RepL fm g' n' cs vs
  | _, _, .nil => .nil
  | _, _, .cons a v cs vs h t => .cons a v cs vs (Rep.mono hg hn h) (RepL.mono hg hn t)
end

mutual
/-- Values whose objects are below m need no more of them. -/
theorem Rep.lower {g : Gh} {n m : Nat} : ∀ {a : AVal} {v : Value}, Rep fm g n a v → a.under m = true → Rep fm g m a v
  | _, _, .undef v, _ => .undef v
  | _, _, .bool b, _ => .bool b
  | _, _, .int k i, _ => .int k i
  | _, _, .str l, _ => .str l
  | _, _, .nilp, _ => .nilp
  | _, _, .nils, _ => .nils
  | _, _, .nilm, _ => .nilm
  | _, _, .nilf, _ => .nilf
  | _, _, .nili, _ => .nili
  | _, _, .ref r off b hr hb, hu => .ref r off b (by simpa [AVal.under] using hu) hb
  | _, _, .ipt cs off b base vs h hp, hu => .ipt cs off b base vs (RepL.lower h (by simpa [AVal.under] using hu)) hp
  | _, _, .sl cs len o b base cap vs ho hc h hp, hu => .sl cs len o b base cap vs ho hc (RepL.lower h (by simp [AVal.under] at hu; exact hu.1)) hp
  | _, _, .sl0 a cap, _ => .sl0 a cap
  | _, _, .map r b hr hb, hu => .map r b (by simpa [AVal.under] using hu) hb
  | _, _, .imap ks vs b cks cvs hb hk hv, hu => by
    simp [AVal.under] at hu
    exact .imap ks vs b cks cvs hb (RepL.lower hk hu.1) (RepL.lower hv hu.2)
  | _, _, .imapU ks vs ks0 vs0 b cks cvs hb hk hv hf hu, _ => .imapU ks vs ks0 vs0 b cks cvs hb (RepL.lower hk (hu m).2.2.1) (RepL.lower hv (hu m).2.2.2) hf hu
  | _, _, .fn f xs ys us vs h1 h2 hf, hu => by
    simp [AVal.under] at hu
    exact .fn f xs ys us vs (RepL.lower h1 hu.1) (RepL.lower h2 hu.2) hf
  | _, _, .yld f l hf, _ => .yld f l hf
  | _, _, .agg cs vs h, hu => .agg cs vs (RepL.lower h (by simpa [AVal.under] using hu))
  | _, _, .tup cs vs h, hu => .tup cs vs (RepL.lower h (by simpa [AVal.under] using hu))
theorem RepL.lower {g : Gh} {n m : Nat} : ∀ {cs : List AVal} {vs : List Value}, RepL fm g n cs vs → underL m cs = true → RepL fm g m cs vs
  | _, _, .nil, _ => .nil
  | _, _, .cons a v cs vs h t, hu => by
    simp [underL] at hu
    exact .cons a v cs vs (Rep.lower h hu.1) (RepL.lower t hu.2)
end

theorem RepL.length {g : Gh} {n : Nat} : ∀ {cs : List AVal} {vs : List Value}, RepL fm g n cs vs → cs.length = vs.length
  | _, _, .nil => rfl
  | _, _, .cons _ _ _ _ _ t => by simp [RepL.length t]

theorem RepL.get {g : Gh} {n : Nat} : ∀ {cs : List AVal} {vs : List Value}, RepL fm g n cs vs → ∀ (i : Nat) (a : AVal), cs[i]? = some a → ∃ v, vs[i]? = some v ∧ Rep fm g n a v
  | _, _, .nil, i, a, h => by simp at h
  | _, _, .cons a v cs vs h t, 0, b, e => by simp at e; subst e; exact ⟨v, rfl, h⟩
  | _, _, .cons a v cs vs h t, i + 1, b, e => by simpa using RepL.get t i b (by simpa using e)

theorem RepL.drop {g : Gh} {n : Nat} : ∀ {cs : List AVal} {vs : List Value}, RepL fm g n cs vs → ∀ (i : Nat), RepL fm g n (cs.drop i) (vs.drop i)
  | _, _, h, 0 => by simpa using h
  | _, _, .nil, i + 1 => by simpa using RepL.nil
  | _, _, .cons a v cs vs h t, i + 1 => by simpa using RepL.drop t i

theorem RepL.take {g : Gh} {n : Nat} : ∀ {cs : List AVal} {vs : List Value}, RepL fm g n cs vs → ∀ (i : Nat), RepL fm g n (cs.take i) (vs.take i)
  | _, _, _, 0 => by simpa using RepL.nil
  | _, _, .nil, i + 1 => by simpa using RepL.nil
  | _, _, .cons a v cs vs h t, i + 1 => by simpa using RepL.cons _ _ _ _ h (RepL.take t i)

theorem RepL.append {g : Gh} {n : Nat} : ∀ {cs : List AVal} {vs : List Value} {ds : List AVal} {us : List Value}, RepL fm g n cs vs → RepL fm g n ds us → RepL fm g n (cs ++ ds) (vs ++ us)
  | _, _, _, _, .nil, h => by simpa using h
  | _, _, _, _, .cons a v cs vs h t, h' => by simpa using RepL.cons _ _ _ _ h (RepL.append t h')

/-- A value in a frame's slot. -/
def SlotRep (fm : Nat → Nat) (g : Gh) (n : Nat) (t : Tag) : AVal → Value → Prop
  | .sl cs len (.mine z), v => ∃ b base cap vs, v = .slice (some ⟨b, base, none⟩) len cap ∧ len ≤ cap ∧ RepL fm g n cs vs ∧ vs <+: (g.st b).drop base ∧
      base + cs.length = (g.st b).length ∧ base + cap * z ≤ g.sz b ∧ g.own b = t
  | .sl cs len (.loc r c), v => Rep fm g n (.sl cs len .none) v ∧ r < n ∧ (∃ b, g.obj r = some b) ∧ ∃ h k, g.vec r c = some (h, k) ∧ cs.length ≤ k ∧ (cs.length = k → v = h)
  | .sl cs len .moved, v => Rep fm g n (.sl cs len .none) v
  | a, v => Rep fm g n a v

/-- A value in cell c of object r. -/
def CellRep (fm : Nat → Nat) (g : Gh) (r c : Nat) : AVal → Value → Prop
  | .sl cs len (.mine z), v => ∃ b base cap vs, v = .slice (some ⟨b, base, none⟩) len cap ∧ len ≤ cap ∧ RepL fm g (r + 1) cs vs ∧ vs <+: (g.st b).drop base ∧
      base + cs.length = (g.st b).length ∧ base + cap * z ≤ g.sz b ∧ g.own b = .cell r c ∧ g.vec r c = some (v, cs.length)
  | .sl cs len .moved, v => Rep fm g (r + 1) (.sl cs len .none) v ∧ g.vec r c = some (v, cs.length)
  | .sl _ _ (.loc _ _), _ => False
  | a, v => Rep fm g (r + 1) a v ∧ g.vec r c = none

def ObjRep (fm : Nat → Nat) (g : Gh) (w : World) (r b : Nat) : AObj → Prop
  | .cells cs => ∃ c elem, w.heap[b]? = some (.cells c elem (0, 0)) ∧ c.size = cs.length ∧ ∀ i a, cs[i]? = some a → ∃ v, c[i]? = some v ∧ CellRep fm g r i a v
  | .bld l => ∃ p v, w.heap[b]? = some (.cells #[p, v] (fm 1000000) (0, 0)) ∧ (p = .pointer none ∨ p = .pointer (some ⟨b, 0, none⟩)) ∧
      ((v = .slice none 0 0 ∧ l = []) ∨ ∃ b2 cap cur fz, v = .slice (some ⟨b2, 0, none⟩) l.length cap ∧ g.own b2 = .buf r ∧ g.st b2 = [] ∧ w.heap[b2]? = some (.cells cur (fm 1000001) fz) ∧ fz.2 ≤ l.length ∧
        l.length ≤ cap ∧ cap ≤ maxLen ∧ cur.size = cap ∧ cur.toList.take l.length = l.map fun x => .int .u8 x.toNat)
  | .map ks vs => ∃ es clock, w.heap[b]? = some (.map es clock) ∧ RepL fm g (r + 1) ks (es.toList.map (·.key)) ∧ RepL fm g (r + 1) vs (es.toList.map (·.val))
  | .dead => True

def Tag.held : Tag → Bool
  | .free | .obj _ | .buf _ => false
  | .other h => h
  | _ => true

structure Sim (fm : Nat → Nat) (s : ASt) (g : Gh) (w : World) : Prop where
  size : s.os.length = s.n
  objs : ∀ r o, s.get r = some o → ∀ b, g.obj r = some b → ObjRep fm g w r b o
  objn : ∀ r b, g.obj r = some b → r < s.n ∧ g.own b = .obj r ∧ b < w.heap.size ∧ g.st b = [] ∧ g.mst b = none
  st : ∀ b, g.st b ≠ [] ∨ (g.own b).held = true → ∃ c elem fr, w.heap[b]? = some (.cells c elem fr) ∧ g.st b <+: c.toList ∧ c.size = g.sz b ∧ ((g.own b).held = true → fr = (0, 0))
  mst : ∀ b ks vs, g.mst b = some (ks, vs) → ∃ es clock, w.heap[b]? = some (.map es clock) ∧ es.toList.map (·.key) = ks ∧ es.toList.map (·.val) = vs
  fresh : ∀ b, w.heap.size ≤ b → g.own b = .free ∧ g.st b = [] ∧ g.mst b = none

def Fix (g g' : Gh) (b : Nat) : Prop := g'.own b = g.own b ∧ g'.st b = g.st b ∧ g'.sz b = g.sz b

/-- What others own is as it was, and so is the world outside. -/
structure Kept (g g' : Gh) (w w' : World) : Prop where
  blk : ∀ b x, g.own b = .other x → Fix g g' b ∧ w'.heap[b]? = w.heap[b]?
  os : w'.os = w.os
  out : w'.output = w.output
  mst : ∀ b x, g.own b = .other x → g'.mst b = g.mst b
instance {g g' : Gh} {w w' : World} : CoeFun (Kept g g' w w') (fun _ => ∀ b x, g.own b = .other x → Fix g g' b ∧ w'.heap[b]? = w.heap[b]?) := ⟨Kept.blk⟩

theorem Fix.trans {g g' g'' : Gh} {b : Nat} (h : Fix g g' b) (h' : Fix g' g'' b) : Fix g g'' b := ⟨h'.1.trans h.1, h'.2.1.trans h.2.1, h'.2.2.trans h.2.2⟩
theorem Kept.refl (g : Gh) (w : World) : Kept g g w w := ⟨fun _ _ _ => ⟨⟨rfl, rfl, rfl⟩, rfl⟩, rfl, rfl, fun _ _ _ => rfl⟩
theorem Kept.trans {g g' g'' : Gh} {w w' w'' : World} (h : Kept g g' w w') (h' : Kept g' g'' w' w'') : Kept g g'' w w'' := ⟨fun b x hb =>
  have h1 := h b x hb
  have h2 := h' b x (by rw [h1.1.1, hb])
  ⟨h1.1.trans h2.1, by rw [h2.2, h1.2]⟩, h'.os.trans h.os, h'.out.trans h.out, fun b x hb => (h'.mst b x (by rw [(h.blk b x hb).1.1, hb])).trans (h.mst b x hb)⟩

def FrameRep (fm : Nat → Nat) (g : Gh) (n nt : Nat) (A : Frame) (tmps : Array Value) : Prop :=
  tmps.size = nt ∧ ∀ d, A.get d ≠ .undef → ∃ v, tmps[d]? = some v ∧ SlotRep fm g n (.slot d) (A.get d) v

end Go.Proofs.YtdhgdpokdhjanaaGreat.Abs
