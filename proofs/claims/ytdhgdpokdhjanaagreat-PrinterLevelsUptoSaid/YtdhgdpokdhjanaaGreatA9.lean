/- Look-ups; all operations that only compute, in one theorem. -/
import Derived.Test.YtdhgdpokdhjanaaGreatA8
set_option linter.unusedSimpArgs false
set_option linter.unusedVariables false
namespace Go.Proofs.YtdhgdpokdhjanaaGreat.Abs
open Go

section
variable {P : Program} {fm : Nat → Nat} {g : Gh} {s : ASt} {n nt : Nat} {A : Frame} {a : Act} {w : World}

/-- The description of a key's type of a kind. -/
def descOk : KT → TypeDesc → Bool
  | .int, .int _ => true
  | .str, .string => true
  | .bool, .bool => true
  | _, _ => false

theorem keq_run {kt : KT} {d : TypeDesc} {x y : AVal} {cx cy : Value} {b : Bool} (hd : descOk kt d = true) (hx : Rep fm g n x cx) (hy : Rep fm g n y cy) (h : keq kt x y = some b) :
    Instr.sameNow d cx cy = some b := by
  cases kt <;> cases d <;> simp [descOk] at hd
  case int.int =>
    cases x <;> cases y <;> simp only [keq] at h <;> try (cases h; done)
    rw [hx.int_inv, hy.int_inv]
    simp only [Instr.sameNow]
    split at h
    · rename_i e
      subst e
      cases h
      simp only [if_true, Option.some.injEq]
      rfl
    · cases h
  case str.string =>
    cases x <;> cases y <;> simp only [keq] at h <;> try (cases h; done)
    rw [hx.str_inv, hy.str_inv]
    cases h
    simp only [Instr.sameNow, beq_toListBytes, toList_mk]
  case bool.bool =>
    cases x <;> cases y <;> simp only [keq] at h <;> try (cases h; done)
    rw [hx.bool_inv, hy.bool_inv]
    cases h
    rfl

theorem checkKey_run (m : Nat) {kt : KT} {d : TypeDesc} {t : Nat} {v : Value} {e : Bool} (hd : descOk kt d = true) (hu : P.underlying t = some d) : (Instr.checkKey e (m + 1) t v).run P w = .ok () w := by
  simp only [Instr.checkKey, Sem.run_bind, run_underlying hu, Result.andThen_ok]
  cases kt <;> cases d <;> simp [descOk] at hd <;> cases v <;> simp

def FoundAt (fm : Nat → Nat) (g : Gh) (n : Nat) : Option AVal → Option (Nat × Value) → Prop
  | none, none => True
  | some v, some (_, cv) => Rep fm g n v cv
  | _, _ => False

theorem find_run {kt : KT} {d : TypeDesc} {k : AVal} {ck : Value} (hd : descOk kt d = true) (hk : Rep fm g n k ck) : ∀ (es : List MapEntry) (i : Nat) (ks vs : List AVal) (r : Option AVal),
    RepL fm g n ks (es.map (·.key)) → RepL fm g n vs (es.map (·.val)) → find kt k ks vs = some r → ∃ o, Instr.findNow d ck es i = some o ∧ FoundAt fm g n r o
  | [], i, ks, vs, r, h1, h2, h => by
    cases h1
    cases h2
    simp only [find, Option.some.injEq] at h
    subst h
    exact ⟨none, rfl, trivial⟩
  | e :: es, i, ks, vs, r, h1, h2, h => by
    cases h1 with
    | cons x _ ks _ hx hks =>
    cases h2 with
    | cons y _ vs _ hy hvs =>
    simp only [find] at h
    split at h
    · rename_i hq
      cases h
      exact ⟨some (i, e.val), by simp [Instr.findNow, keq_run hd hk hx hq], hy⟩
    · rename_i hq
      obtain ⟨o, h3, h4⟩ := find_run hd hk es (i + 1) ks vs r hks hvs h
      exact ⟨o, by simp [Instr.findNow, keq_run hd hk hx hq, h3], h4⟩
    · cases h

theorem keyOk_some {t : Nat} {kt : KT} (h : keyOk P t kt = true) : ∃ k e d, P.underlying t = some (.map k e) ∧ P.underlying k = some d ∧ descOk kt d = true := by
  unfold keyOk at h
  split at h
  · rename_i k e hu
    split at h
    · exact ⟨k, e, _, hu, by assumption, rfl⟩
    · exact ⟨k, e, _, hu, by assumption, rfl⟩
    · exact ⟨k, e, _, hu, by assumption, rfl⟩
    · cases h
  · cases h

theorem zval_run {t : Nat} {z : AVal} (h : zvalOk P t z = true) : ∃ cz, (zeroValue t).run P w = .ok cz w ∧ Rep fm g n z cz := by
  unfold zvalOk at h
  split at h
  · rename_i i hi
    split at h
    · rename_i zs cs hz
      exact ⟨.agg zs, by simp [zeroValue, run_typeInfo hi, hz], by have := Rep.agg (fm := fm) (g := g) (n := n) cs zs.toList (litOkL_rep fm g n h); simpa using this⟩
    · rename_i cz hz _
      exact ⟨cz, by simp [zeroValue, run_typeInfo hi, hz], litOk_rep fm g n h⟩
    · cases h
  · cases h

/-- The entries of a map, as they lie. -/
theorem entries_run {m : AVal} {cm : Value} {ks vs : List AVal} (hS : Sim fm s g w) (hm : Rep fm g s.n m cm) (h : entries s m = some (ks, vs)) :
    ∃ (es : Array MapEntry) (ks0 vs0 : List AVal), (cm = .map none ∧ es = #[] ∨ ∃ b clock, cm = .map (some b) ∧ w.heap[b]? = some (.map es clock)) ∧
      RepL fm g s.n ks0 (es.toList.map (·.key)) ∧ RepL fm g s.n vs0 (es.toList.map (·.val)) ∧ ∀ kt k, find kt k ks vs = find kt k ks0 vs0 := by
  cases m <;> simp only [entries] at h <;> try (cases h; done)
  case nilm =>
    cases h
    cases hm
    exact ⟨#[], [], [], .inl ⟨rfl, rfl⟩, .nil, .nil, fun _ _ => rfl⟩
  case map r =>
    split at h
    · rename_i ks' vs' hr
      cases h
      cases hm with
      | map _ b hlt hb =>
      obtain ⟨es, clock, h1, h2, h3⟩ := hS.objs r _ hr b hb
      exact ⟨es, _, _, .inr ⟨b, clock, rfl, h1⟩, h2.mono (le.refl _ _) (by omega), h3.mono (le.refl _ _) (by omega), fun _ _ => rfl⟩
    · cases h
  case imap ks' vs' =>
    cases h
    cases hm with
    | imap _ _ b cks cvs hb hk hv =>
      obtain ⟨es, clock, h1, h2, h3⟩ := hS.mst b cks cvs hb
      exact ⟨es, _, _, .inr ⟨b, clock, rfl, h1⟩, by rw [h2]; exact hk, by rw [h3]; exact hv, fun _ _ => rfl⟩
    | imapU _ _ ks0 vs0 b cks cvs hb hk hv hf hu =>
      obtain ⟨es, clock, h1, h2, h3⟩ := hS.mst b cks cvs hb
      exact ⟨es, ks0, vs0, .inr ⟨b, clock, rfl, h1⟩, by rw [h2]; exact hk, by rw [h3]; exact hv, hf⟩

theorem lookup_run {kt : KT} {t : Nat} {zero m k : AVal} {cm ck : Value} {ok : Bool} {ks vs : List AVal} {r : Option AVal} (hS : Sim fm s g w) (hm : Rep fm g s.n m cm) (hk : Rep fm g s.n k ck)
    (hkt : keyOk P t kt = true) (hz : (match P.underlying t with | some (.map _ e) => zvalOk P e zero | _ => false) = true) (he : entries s m = some (ks, vs)) (hf : find kt k ks vs = some r) :
    ∃ cv, (Instr.lookup t cm ck ok).run P w = .ok cv w ∧ Rep fm g s.n (if ok then .tup [r.getD zero, .bool r.isSome] else r.getD zero) cv := by
  obtain ⟨key, e, d, hu, hud, hd⟩ := keyOk_some hkt
  rw [hu] at hz
  obtain ⟨cz, hz1, hz2⟩ := zval_run (fm := fm) (g := g) (n := s.n) (w := w) hz
  obtain ⟨es, ks0, vs0, hes, hks, hvs, hfeq⟩ := entries_run hS hm he
  rw [hfeq] at hf
  obtain ⟨o, ho, hfo⟩ := find_run hd hk es.toList 0 ks0 vs0 r hks hvs hf
  have hfind : (Instr.findKey key ck es.toList).run P w = .ok o w := by
    simp only [Instr.findKey, Sem.run_bind, run_underlying hud, Result.andThen_ok, ho, Sem.run_pure]
  have hch : (Instr.checkKey es.isEmpty 10000 key ck).run P w = .ok () w := checkKey_run 9999 hd hud
  have key2 : ∀ v b, ((o = none ∧ v = cz ∧ b = false) ∨ ∃ i, o = some (i, v) ∧ b = true) →
      (Instr.lookup t cm ck ok).run P w = .ok (if ok then .tuple #[v, .bool b] else v) w := by
    intro v b hvb
    rcases hes with ⟨rfl, rfl⟩ | ⟨bl, clock, rfl, hb⟩
    · have hnone : o = none := by
        simp [Instr.findNow] at ho
        exact ho.symm
      subst hnone
      rcases hvb with ⟨_, rfl, rfl⟩ | ⟨i, hh, _⟩
      · have hch' : (Instr.checkKey true 10000 key ck).run P w = .ok () w := hch
        have hf' : (Instr.findKey key ck []).run P w = .ok none w := hfind
        simp [Instr.lookup, run_underlying hu, hch', hf', hz1]
      · cases hh
    · have hgo : (getObj bl).run P w = .ok (.map es clock) w := by simp [getObj, Sem.run, hb]
      rcases hvb with ⟨rfl, rfl, rfl⟩ | ⟨i, rfl, rfl⟩
      · simp only [Instr.lookup, Sem.run_bind, run_underlying hu, Result.andThen_ok, hgo, Sem.run_pure, hch, hfind, hz1]
      · simp only [Instr.lookup, Sem.run_bind, run_underlying hu, Result.andThen_ok, hgo, Sem.run_pure, hch, hfind]
  cases r with
  | none =>
    cases o with
    | none =>
      refine ⟨_, key2 cz false (.inl ⟨rfl, rfl, rfl⟩), ?_⟩
      cases ok with
      | true => exact .tup _ [cz, .bool false] (.cons _ _ _ _ hz2 (.cons _ _ _ _ (.bool _) .nil))
      | false => exact hz2
    | some x => exact hfo.elim
  | some v =>
    cases o with
    | none => exact hfo.elim
    | some x =>
      obtain ⟨i, cv⟩ := x
      refine ⟨_, key2 cv true (.inr ⟨i, rfl, rfl⟩), ?_⟩
      cases ok with
      | true => exact .tup _ [cv, .bool true] (.cons _ _ _ _ hfo (.cons _ _ _ _ (.bool _) .nil))
      | false => exact hfo

end
end Go.Proofs.YtdhgdpokdhjanaaGreat.Abs
