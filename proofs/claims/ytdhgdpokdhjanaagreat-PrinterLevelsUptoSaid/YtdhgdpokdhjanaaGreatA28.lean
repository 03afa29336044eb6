/- Functions of the library that are met by the kit's contracts: strings.Join, strings.Repeat. -/
import Derived.Test.YtdhgdpokdhjanaaGreatA24
import Derived.Below
import Derived.Lib.Repeat
import Derived.Shelf.Strings.OnBuilder
set_option linter.unusedSimpArgs false
set_option linter.unusedVariables false
namespace Go.Proofs.YtdhgdpokdhjanaaGreat.Abs
open Go Go.RowKit

section
variable {P : Program} {fm : Nat → Nat} {g : Gh} {s : ASt} {w w' : World}

theorem below_heap (hb : Below w.heap.size w w') {b : Nat} {o : Obj} (h : w.heap[b]? = some o) : w'.heap[b]? = some o := by
  rw [hb.block b (Array.getElem?_eq_some_iff.1 h).1, h]

theorem Sim.below (hS : Sim fm s g w) (hb : Below w.heap.size w w') : Sim fm s g w' where
  size := hS.size
  objs := fun r o hr b hg => by
    have h := hS.objs r o hr b hg
    cases o with
    | cells cs =>
      obtain ⟨c, elem, h1, h2, h3⟩ := h
      exact ⟨c, elem, below_heap hb h1, h2, h3⟩
    | bld l =>
      obtain ⟨p, v, h1, h2, h3⟩ := h
      refine ⟨p, v, below_heap hb h1, h2, ?_⟩
      rcases h3 with h3 | ⟨b2, cap, cur, fz, q1, q2, q0, q3, q4⟩
      · exact .inl h3
      · exact .inr ⟨b2, cap, cur, fz, q1, q2, q0, below_heap hb q3, q4⟩
    | map ks vs =>
      obtain ⟨es, clock, h1, h2⟩ := h
      exact ⟨es, clock, below_heap hb h1, h2⟩
    | dead => trivial
  objn := fun r b hg => by
    obtain ⟨e1, e2, e3, e4⟩ := hS.objn r b hg
    exact ⟨e1, e2, Nat.lt_of_lt_of_le e3 hb.size, e4⟩
  st := fun b h => by
    obtain ⟨c, elem, fr, h1, h2⟩ := hS.st b h
    exact ⟨c, elem, fr, below_heap hb h1, h2⟩
  mst := fun b ks vs h => by
    obtain ⟨es, clock, h1, h2⟩ := hS.mst b ks vs h
    exact ⟨es, clock, below_heap hb h1, h2⟩
  fresh := fun b h => hS.fresh b (Nat.le_trans hb.size h)

theorem kept_below (hS : Sim fm s g w) (hb : Below w.heap.size w w') : Kept g g w w' := by
  refine ⟨fun b x hx => ⟨⟨rfl, rfl, rfl⟩, ?_⟩, hb.os, hb.output, fun _ _ _ => rfl⟩
  rcases Nat.lt_or_ge b w.heap.size with h | h
  · exact hb.block b h
  · have := (hS.fresh b h).1
    rw [hx] at this
    cases this

/-- A contract that says what comes back and that nothing that was there has changed. -/
theorem post_below {f : Nat} {vs : Array Value} {m : Nat} {v : AVal} {cv : Value} (hS : Sim fm s g w) (hr : Rep fm g s.n v cv)
    (h : Calls P f vs w fun e w' => e = .returned cv ∧ Below w.heap.size w w') : CallsIn (FW none) m P f vs w (CallPost fm g w s s v) := by
  refine CallsIn.mono (F := FW none) (show CallsIn (FW none) m P f vs w _ from callsIn_wide.2 h) ?_
  rintro e w' ⟨rfl, hb⟩
  exact ⟨cv, g, rfl, hS.below hb, le.refl _ _, Nat.le_refl _, kept_below hS hb, hr.slot⟩

def strsOf : List AVal → Option (List (List UInt8))
  | [] => some []
  | .str l :: r => (strsOf r).map (l :: ·)
  | _ => none

def extJoin : List AVal → ASt → Option (AVal × ASt)
  | [.nils, .str _], s => some (.str [], s)
  | [.sl [] n _, .str _], s => if n = 0 then some (.str [], s) else none
  | [.sl cs n _, .str sep], s => (strsOf cs).bind fun l => if cs.length = n ∧ n ≤ limit ∧ (Lib.join l sep).length ≤ limit then some (.str (Lib.join l sep), s) else none
  | _, _ => none
def extRepeat : List AVal → ASt → Option (AVal × ASt)
  | [.str l, .int .i64 n], s => if 0 ≤ n ∧ n ≤ limit ∧ l.length * n.toNat ≤ limit then some (.str (Lib.repeatL l n.toNat), s) else none
  | _, _ => none

def JoinSaid (P : Program) (f : Nat) : Prop := ∀ (bk o c : Nat) (xs : List ByteArray) (sep : ByteArray) (w : World),
    (∀ (j : Nat) (x : ByteArray), xs[j]? = some x → w.cell? ⟨bk, o + j, none⟩ = some (.string x)) → bk < w.heap.size → xs.length ≤ 140737488355328 → xs.length ≤ c →
    (Lib.join (xs.map (·.data.toList)) sep.data.toList).length ≤ 140737488355328 →
    Calls P f #[.slice (some ⟨bk, o, none⟩) xs.length c, .string sep] w fun e w' => e = .returned (.string ⟨(Lib.join (xs.map (·.data.toList)) sep.data.toList).toArray⟩) ∧ Below w.heap.size w w'
def JoinNone (P : Program) (f : Nat) : Prop := ∀ (a : Option Addr) (c : Nat) (sep : ByteArray) (w : World), Calls P f #[.slice a 0 c, .string sep] w fun e w' => e = .returned (.string ⟨#[]⟩) ∧ w' = w
def RepeatSaid (P : Program) (f : Nat) : Prop := ∀ (s : ByteArray) (c : Nat) (w : World), c ≤ 9223372036854775807 → s.size * c ≤ 140737488355328 →
    Calls P f #[.string s, .int .i64 c] w fun e w' => e = .returned (.string ⟨(Lib.repeatL s.data.toList c).toArray⟩) ∧ Below w.heap.size w w'

theorem strsOf_rep {n : Nat} : ∀ {cs : List AVal} {l : List (List UInt8)} {vs : List Value}, strsOf cs = some l → RepL fm g n cs vs →
    vs = l.map (fun x => Value.string ⟨x.toArray⟩) ∧ cs.length = l.length
  | [], l, vs, h, hr => by
    cases h
    cases hr
    exact ⟨rfl, rfl⟩
  | a :: cs, l, vs, h, hr => by
    cases a <;> simp only [strsOf] at h <;> try (cases h; done)
    obtain ⟨r, h1, rfl⟩ := map_some' h
    cases hr with
    | cons _ _ _ _ ha ht =>
    cases ha
    obtain ⟨q1, q2⟩ := strsOf_rep h1 ht
    exact ⟨by simp [q1], by simp [q2]⟩

theorem join_none {f : Nat} (hN : JoinNone P f) (hS : Sim fm s g w) (a : Option Addr) (c m : Nat) (sep : ByteArray) :
    CallsIn (FW none) m P f #[.slice a 0 c, .string sep] w (CallPost fm g w s s (.str [])) :=
  post_below hS (Rep.str []) ((hN a c sep w).mono fun e w' ⟨he, hw⟩ => ⟨he, hw ▸ Below.refl _ _⟩)

theorem join_sound {f : Nat} (hJ : JoinSaid P f) (hN : JoinNone P f) {args : List AVal} {v : AVal} {s' : ASt} (h : extJoin args s = some (v, s')) (hS : Sim fm s g w) {vs : Array Value} (hR : RepL fm g s.n args vs.toList) (m : Nat) :
    CallsIn (FW none) m P f vs w (CallPost fm g w s s' v) := by
  have two : ∀ (x y : AVal), RepL fm g s.n [x, y] vs.toList → ∃ a b, vs = #[a, b] ∧ Rep fm g s.n x a ∧ Rep fm g s.n y b := by
    intro x y hR
    generalize hvs : vs.toList = vl at hR
    cases hR with
    | cons _ v1 _ _ h1 ht =>
    cases ht with
    | cons _ v2 _ _ h2 ht =>
    cases ht with
    | nil =>
    exact ⟨v1, v2, Array.ext' hvs, h1, h2⟩
  unfold extJoin at h
  split at h
  · cases h
    obtain ⟨a, b, rfl, h1, h2⟩ := two _ _ hR
    cases h1
    cases h2
    exact join_none hN hS _ _ _ _
  · split at h
    · rename_i hn
      cases h
      obtain ⟨a, b, rfl, h1, h2⟩ := two _ _ hR
      subst hn
      cases h2
      cases h1
      · exact join_none hN hS _ _ _ _
      · exact join_none hN hS _ _ _ _
    · cases h
  · rename_i cs n o sep hne
    obtain ⟨l, hl, h⟩ := bind_some' h
    split at h
    · rename_i hc
      cases h
      obtain ⟨a, b, rfl, h1, h2⟩ := two _ _ hR
      cases h1 with
      | sl0 ad cap => exact absurd rfl hne
      | sl _ _ _ b base cap us ho hcap hu hp =>
      cases h2
      obtain ⟨q1, q2⟩ := strsOf_rep hl hu
      have hcell := fun i u (hu : us[i]? = some u) => hS.cell hp hu
      have hlen : (l.map fun x => (⟨x.toArray⟩ : ByteArray)).length = n := by rw [List.length_map, ← q2, hc.1]
      have hm : (l.map fun x => (⟨x.toArray⟩ : ByteArray)).map (·.data.toList) = l := by simp [Function.comp_def]
      refine post_below hS (Rep.str _) ?_
      have := hJ b base cap (l.map fun x => ⟨x.toArray⟩) ⟨sep.toArray⟩ w
      rw [hlen, hm] at this
      refine this (fun j x hx => hcell j _ (by rw [q1]; simpa [Function.comp_def] using hx)) ?_ ?_ hcap ?_
      · cases l with
        | nil =>
          cases cs with
          | nil => exact absurd rfl hne
          | cons a cs => simp at q2
        | cons x l =>
          have := hcell 0 (.string ⟨x.toArray⟩) (by simp [q1])
          rcases Nat.lt_or_ge b w.heap.size with h | h
          · exact h
          · simp [World.cell?, Array.getElem?_eq_none h] at this
      · have := hc.2.1
        unfold limit at this
        omega
      · have := hc.2.2
        unfold limit at this
        have e : (⟨sep.toArray⟩ : ByteArray).data.toList = sep := by simp
        rw [e]
        omega
    · cases h
  · cases h

theorem repeat_sound {f : Nat} (hJ : RepeatSaid P f) {args : List AVal} {v : AVal} {s' : ASt} (h : extRepeat args s = some (v, s')) (hS : Sim fm s g w) {vs : Array Value} (hR : RepL fm g s.n args vs.toList) (m : Nat) :
    CallsIn (FW none) m P f vs w (CallPost fm g w s s' v) := by
  unfold extRepeat at h
  split at h
  · rename_i l n
    split at h
    · rename_i hc
      cases h
      generalize hvs : vs.toList = vl at hR
      cases hR with
      | cons _ v1 _ _ h1 ht =>
      cases ht with
      | cons _ v2 _ _ h2 ht =>
      cases ht with
      | nil =>
      obtain rfl : vs = #[v1, v2] := Array.ext' hvs
      cases h1
      cases h2
      refine post_below hS (Rep.str _) ?_
      have h2 := hc.2.1
      have h3 := hc.2.2
      unfold limit at h2 h3
      have := hJ ⟨l.toArray⟩ n.toNat w (by omega) (by
        have : (⟨l.toArray⟩ : ByteArray).size = l.length := by simp [ByteArray.size]
        rw [this]; omega)
      rw [Int.toNat_of_nonneg hc.1] at this
      simpa using this
    · cases h
  · cases h

end
end Go.Proofs.YtdhgdpokdhjanaaGreat.Abs
