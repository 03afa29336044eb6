/- Entries of maps. -/
import Derived.Test.YtdhgdpokdhjanaaGreatA15
import Derived.Lib.ConvBytes
set_option linter.unusedSimpArgs false
set_option linter.unusedVariables false
namespace Go.Proofs.YtdhgdpokdhjanaaGreat.Abs
open Go

section
variable {P : Program} {fm : Nat → Nat} {g g' : Gh} {s s' : ASt} {n n' nt : Nat} {A A1 A' : Frame} {a : Act} {w w' : World}

theorem sameBits_of {kt : KT} {m : Nat} {x y : AVal} {cx cy : Value} (hx : Rep fm g n x cx) (hy : Rep fm g n y cy) (h : keq kt x y = some true) : Instr.sameBits m cy cx = true := by
  cases kt <;> cases x <;> cases y <;> simp only [keq] at h <;> try (cases h; done)
  · rw [hx.int_inv, hy.int_inv]
    split at h
    · rename_i e
      subst e
      simp at h
      subst h
      cases m <;> simp [Instr.sameBits]
    · cases h
  · rw [hx.str_inv, hy.str_inv]
    simp at h
    subst h
    cases m <;> simp [Instr.sameBits, beq_toListBytes]
  · rw [hx.bool_inv, hy.bool_inv]
    simp at h
    subst h
    cases m <;> simp [Instr.sameBits]

theorem insert_find {kt : KT} {d : TypeDesc} {k v : AVal} {ck cv : Value} (hd : descOk kt d = true) (hk : Rep fm g n k ck) (hv : Rep fm g n v cv) : ∀ (es : List MapEntry) (i : Nat) (ks vs ks' vs' : List AVal),
    RepL fm g n ks (es.map (·.key)) → RepL fm g n vs (es.map (·.val)) → insertAt kt k v ks vs = some (ks', vs') →
    (∃ j e, Instr.findNow d ck es i = some (some (i + j, e.val)) ∧ es[j]? = some e ∧ Instr.sameBits 10000 e.key ck = true ∧
        RepL fm g n ks' ((List.modify es j fun e : MapEntry => { e with key := ck, val := cv }).map (·.key)) ∧ RepL fm g n vs' ((List.modify es j fun e : MapEntry => { e with key := ck, val := cv }).map (·.val))) ∨
      (Instr.findNow d ck es i = some none ∧ ∀ born, RepL fm g n ks' ((es ++ [({ key := ck, val := cv, born := born } : MapEntry)]).map (·.key)) ∧ RepL fm g n vs' ((es ++ [({ key := ck, val := cv, born := born } : MapEntry)]).map (·.val)))
  | [], i, ks, vs, ks', vs', h1, h2, h => by
    cases h1
    cases h2
    simp only [insertAt, Option.some.injEq, Prod.mk.injEq] at h
    obtain ⟨rfl, rfl⟩ := h
    exact .inr ⟨rfl, fun born => ⟨.cons _ _ _ _ hk .nil, .cons _ _ _ _ hv .nil⟩⟩
  | e :: es, i, ks, vs, ks', vs', h1, h2, h => by
    cases h1 with
    | cons x _ ks _ hx hks =>
    cases h2 with
    | cons y _ vs _ hy hvs =>
    simp only [insertAt] at h
    split at h
    · rename_i hq
      cases h
      left
      exact ⟨0, e, by simp [Instr.findNow, keq_run hd hk hx hq], rfl, sameBits_of hk hx hq, .cons _ _ _ _ hk hks, .cons _ _ _ _ hv hvs⟩
    · rename_i hq
      obtain ⟨⟨a, b⟩, hab, h⟩ := map_some' h
      cases h
      rcases insert_find hd hk hv es (i + 1) ks vs a b hks hvs hab with ⟨j, e', f1, f2, f3, f4, f5⟩ | ⟨f1, f2⟩
      · left
        refine ⟨j + 1, e', ?_, by simpa using f2, f3, ?_, ?_⟩
        · simp only [Instr.findNow, keq_run hd hk hx hq, f1]
          congr 3
          omega
        · exact .cons _ _ _ _ hx f4
        · exact .cons _ _ _ _ hy f5
      · right
        refine ⟨by simp only [Instr.findNow, keq_run hd hk hx hq, f1], fun born => ?_⟩
        obtain ⟨q1, q2⟩ := f2 born
        exact ⟨.cons _ _ _ _ hx q1, .cons _ _ _ _ hy q2⟩
    · cases h

theorem insert_sound {kt : KT} {t r : Nat} {k v : AVal} {cm ck cv : Value} {ks vs ks' vs' : List AVal} (hS : Sim fm s g w) (hF : FrameRep fm g s.n nt A a.tmps) (hm : Rep fm g s.n (.map r) cm)
    (hk : Rep fm g s.n k ck) (hv : Rep fm g s.n v cv) (hkt : keyOk P t kt = true) (hr : s.get r = some (.map ks vs)) (hi : insertAt kt k v ks vs = some (ks', vs'))
    (hu : (k.under (r + 1) && v.under (r + 1)) = true) :
    ∃ w', (Instr.mapUpdate t cm ck cv).run P w = .ok () w' ∧ Post fm nt g w s (s.set r (.map ks' vs')) A a.tmps .undef undef g w' := by
  obtain ⟨key, e, d, hut, hud, hd⟩ := keyOk_some hkt
  simp only [Bool.and_eq_true] at hu
  cases hm with
  | map _ b hlt hb =>
  obtain ⟨es, clock, h1, h2, h3⟩ := hS.objs r _ hr b hb
  obtain ⟨o1, o2, o3, o4, o5⟩ := hS.objn r b hb
  have hgo : (getObj b).run P w = .ok (.map es clock) w := by simp [getObj, Sem.run, h1]
  have hch : (Instr.checkKey false 10000 key ck).run P w = .ok () w := checkKey_run 9999 hd hud
  have hset : ∀ o, (setObj b o).run P w = .ok () { w with heap := w.heap.setIfInBounds b o } := fun o => by simp [setObj, Sem.run, h1]
  have hget : ∀ o x, ({ w with heap := w.heap.setIfInBounds b o } : World).heap[x]? = if x = b then some o else w.heap[x]? := by
    intro o x
    simp only [Array.getElem?_setIfInBounds]
    by_cases e : x = b
    · subst e; simp [o3]
    · simp [e, Ne.symm e]
  have done : ∀ (es' : Array MapEntry) (clock' : Nat), RepL fm g (r + 1) ks' (es'.toList.map (·.key)) → RepL fm g (r + 1) vs' (es'.toList.map (·.val)) →
      Post fm nt g w s (s.set r (.map ks' vs')) A a.tmps .undef undef g { w with heap := w.heap.setIfInBounds b (.map es' clock') } := by
    intro es' clock' hk' hv'
    refine ⟨?_, le.refl _ _, Nat.le_refl _, ⟨fun x q hx => ⟨⟨rfl, rfl, rfl⟩, ?_⟩, rfl, rfl, fun _ _ _ => rfl⟩, hF, .undef _⟩
    · refine hS.step (· = b) (by simp [ASt.set, setL_length, hS.size]) (le.refl _ _) (Nat.le_refl _) (fun x hx => ⟨⟨rfl, rfl, rfl⟩, rfl, by rw [hget, if_neg hx]⟩)
        (fun x h1 h2 => by simp at h2; omega) (by simp) ?_ ?_ ?_ ?_ ?_ (fun x hx q e => by rw [hx, o2] at e; cases e)
      · intro q o hq
        by_cases e : q = r
        · subst e
          rw [ASt.get_set_same hr] at hq
          cases hq
          right
          intro b' hb'
          rw [hb] at hb'
          cases hb'
          exact ⟨es', clock', by rw [hget, if_pos rfl], hk', hv'⟩
        · rw [ASt.get_set_other e] at hq
          left
          refine ⟨hq, rfl, fun b' hb' e2 => ?_, fun _ => rfl, fun b' c' hb' e2 => ?_⟩
          · subst e2
            obtain ⟨_, q2, _⟩ := hS.objn q b' hb'
            rw [o2] at q2
            cases q2
            exact e rfl
          · subst e2
            rw [o2] at hb'
            cases hb'
      · intro q b' hb'
        by_cases e : b' = b
        · right
          subst e
          obtain ⟨q1, q2, q3, q4, q5⟩ := hS.objn q b' hb'
          exact ⟨q1, q2, by simpa using q3, q4, q5⟩
        · exact .inl ⟨hb', e⟩
      · intro x hx h
        subst hx
        rcases h with h | h
        · exact absurd o4 h
        · rw [o2] at h; simp [Tag.held] at h
      · intro x hx ks us h
        subst hx
        rw [o5] at h
        cases h
      · intro x hx h
        subst hx
        simp at h
        omega
    · have : x ≠ b := fun e => by rw [e, o2] at hx; cases hx
      rw [hget, if_neg this]
  rcases insert_find hd (hk.lower hu.1) (hv.lower hu.2) es.toList 0 ks vs ks' vs' h2 h3 hi with ⟨j, e0, f1, f2, f3, f4, f5⟩ | ⟨f1, f2⟩
  · rw [Nat.zero_add] at f1
    have hfind : (Instr.findKey key ck es.toList).run P w = .ok (some (j, e0.val)) w := by
      simp only [Instr.findKey, Sem.run_bind, run_underlying hud, Result.andThen_ok, f1, Sem.run_pure]
    have hkey : (Instr.keyThatStays (((es[j]?).map (·.key)).getD ck) ck).run P w = .ok ck w := by
      have : es[j]? = some e0 := by simpa using f2
      simp [this, Instr.keyThatStays, f3]
    refine ⟨_, ?_, done (Array.modify es j fun e : MapEntry => { e with key := ck, val := cv }) clock ?_ ?_⟩
    · simp only [Instr.mapUpdate, Sem.run_bind, run_underlying hut, Result.andThen_ok, hgo, hch, hfind, hkey, hset]
    · rw [Array.toList_modify]; exact f4
    · rw [Array.toList_modify]; exact f5
  · have hfind : (Instr.findKey key ck es.toList).run P w = .ok none w := by
      simp only [Instr.findKey, Sem.run_bind, run_underlying hud, Result.andThen_ok, f1, Sem.run_pure]
    obtain ⟨q1, q2⟩ := f2 clock
    refine ⟨_, ?_, done (es.push { key := ck, val := cv, born := clock }) (clock + 1) ?_ ?_⟩
    · simp only [Instr.mapUpdate, Sem.run_bind, run_underlying hut, Result.andThen_ok, hgo, hch, hfind, hset]
    · rw [Array.toList_push]; exact q1
    · rw [Array.toList_push]; exact q2

def Gh.newPart (g : Gh) (b : Nat) (vs : List Value) (total : Nat) : Gh := { g with st := fun x => if x = b then vs else g.st x, sz := fun x => if x = b then total else g.sz x }

theorem bytes_get (w : World) (e : Nat) (l : ByteArray) (k : Nat) : (Lib.bytesWorld w e l).heap[k]? = if k = w.heap.size then some (.cells (Lib.bytesCells w e l) e ((Lib.bytesCells w e l).size, (Lib.bytesCells w e l).size + 1)) else w.heap[k]? := by
  by_cases h : k = w.heap.size
  · subst h
    rw [if_pos rfl, Lib.bytesWorld_at_new]
  · rw [if_neg h]
    rcases Nat.lt_or_ge k w.heap.size with h1 | h1
    · exact Lib.bytesWorld_at_old w e l k h1
    · rw [Array.getElem?_eq_none h1, Array.getElem?_eq_none (by rw [Lib.bytesWorld_size]; omega)]

/-- The row that a string's bytes are laid in: they stay. -/
theorem newBytes_sound {e : Nat} {l : ByteArray} (hS : Sim fm s g w) (hF : FrameRep fm g s.n nt A a.tmps) {vs : List Value} (hv : vs = l.data.toList.map fun b => Value.int .u8 b.toNat) {g' : Gh} (hg : g' = g.newPart w.heap.size vs (Lib.bytesCells w e l).size) :
    Sim fm s g' (Lib.bytesWorld w e l) ∧ le s.n g g' ∧ Kept g g' w (Lib.bytesWorld w e l) ∧ FrameRep fm g' s.n nt A a.tmps ∧ g'.st w.heap.size = vs := by
  obtain ⟨f1, f2, f3⟩ := hS.fresh w.heap.size (Nat.le_refl _)
  have hle : le s.n g g' := ⟨fun _ _ _ h => by rw [hg]; exact h, fun x => by
      rw [hg]
      by_cases e : x = w.heap.size
      · subst e; rw [f2]; exact List.nil_prefix
      · simp [Gh.newPart, e], fun _ _ h => by rw [hg]; exact h, fun _ _ _ h k e => ⟨h, k, by rw [hg]; exact e, Nat.le_refl _, fun _ => rfl⟩⟩
  have hne : ∀ b, b ≠ w.heap.size → Fix g g' b := fun b hb => ⟨by rw [hg]; rfl, by simp [hg, Gh.newPart, hb], by simp [hg, Gh.newPart, hb]⟩
  have hown : ∀ b t, g.own b = t → t ≠ .free → b ≠ w.heap.size := fun b t hb ht e => ht (by rw [← hb, e, f1])
  have hobj : g'.obj = g.obj := by rw [hg]; rfl
  have hmst : g'.mst = g.mst := by rw [hg]; rfl
  have hvec : g'.vec = g.vec := by rw [hg]; rfl
  have hst0 : g'.st w.heap.size = vs := by simp [hg, Gh.newPart]
  refine ⟨?_, hle, ?_, hF.keep hle (Nat.le_refl _) (fun b d hb => hne b (hown b _ hb (by simp))), hst0⟩
  · refine hS.step (· = w.heap.size) hS.size hle (Nat.le_refl _)
      (fun b hb => ⟨hne b hb, by rw [hmst], by rw [bytes_get, if_neg hb]⟩) (fun b h1 h2 => by rw [Lib.bytesWorld_size] at h2; omega) (by rw [Lib.bytesWorld_size]; omega) ?_ ?_ ?_ ?_ ?_ (fun b hb q e => by subst hb; rw [f1] at e; cases e)
    · intro r o' hr
      left
      refine ⟨hr, by rw [hobj], fun b hb e2 => ?_, fun c => by rw [hvec], fun b c hb => hown b _ hb (by simp)⟩
      obtain ⟨_, _, h3, _⟩ := hS.objn r b hb
      omega
    · intro r b hb
      left
      rw [hobj] at hb
      obtain ⟨_, _, h3, _⟩ := hS.objn r b hb
      exact ⟨hb, by omega⟩
    · intro b hb h
      subst hb
      refine ⟨Lib.bytesCells w e l, e, _, by rw [bytes_get, if_pos rfl], ?_, by simp [hg, Gh.newPart], fun hh => ?_⟩
      · rw [hst0, hv]
        simp [Lib.bytesCells]
      · rw [hg] at hh
        have hh : (g.own w.heap.size).held = true := hh
        rw [f1] at hh
        simp [Tag.held] at hh
    · intro b hb ks us h
      subst hb
      rw [hmst, f3] at h
      cases h
    · intro b hb h
      subst hb
      rw [Lib.bytesWorld_size] at h
      omega
  · refine ⟨?_, ?_, ?_, fun _ _ _ => by rw [hmst]⟩
    · intro b q hb
      have := hown b _ hb (by simp)
      exact ⟨hne b this, by rw [bytes_get, if_neg this]⟩
    · simp [Lib.bytesWorld, World.freeze, World.alloc, World.drew, -World.alloc_eq, -World.drew_eq]
    · simp [Lib.bytesWorld, World.freeze, World.alloc, World.drew, -World.alloc_eq, -World.drew_eq]

theorem byteCells_rep (g : Gh) (n : Nat) : ∀ l : List UInt8, RepL fm g n (byteCells l) (l.map fun b => Value.int .u8 b.toNat)
  | [] => .nil
  | b :: l => .cons _ _ _ _ (.int .u8 b.toNat) (byteCells_rep g n l)

end
end Go.Proofs.YtdhgdpokdhjanaaGreat.Abs
