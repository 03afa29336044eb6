/- What is known of some calls serves the reckoning of others. -/
import Derived.Test.YtdhgdpokdhjanaaGreatA26
import Derived.Test.YtdhgdpokdhjanaaGreatMA18
import Derived.Below
import Derived.Lib.Repeat
import Derived.Shelf.Strings.OnBuilder
import Derived.ChangeArms
import Derived.ChangeSame
import Derived.JoinedCond
import Derived.OpenShut
import Derived.Shelf.Strings.BuilderK
set_option linter.unusedSimpArgs false
set_option linter.unusedVariables false
namespace Go.Proofs.YtdhgdpokdhjanaaGreat.Abs
open Go

/-- A machine that knows the answers of some calls of another one answers as that one. -/
theorem Call_more {C C' : Cfg} (hf : C'.funcs = C.funcs) (hx : ∀ f h, C'.ext f = some h → ∀ args s r, h args s = some r → Call C f args s = some r) (hn : ∀ f, C'.ext f = none → C.ext f = none) :
    ∀ k, (∀ f args s r, (upto C' k).1 f args s = some r → Call C f args s = some r) ∧ ∀ b keep A s r, (upto C' k).2 b keep A s = some r → Loop C b keep A s = some r
  | 0 => ⟨fun _ _ _ _ h => (by cases h), fun _ _ _ _ _ h => (by cases h)⟩
  | k + 1 => by
    obtain ⟨h1, h2⟩ := Call_more hf hx hn k
    refine ⟨fun f args s r h => ?_, fun b keep A s r h => ?_⟩
    · have h : stepCall C' (upto C' k).1 (upto C' k).2 f args s = some r := h
      simp only [stepCall] at h
      cases he : C'.ext f with
      | some g =>
        rw [he] at h
        exact hx f g he args s r h
      | none =>
        rw [he] at h
        rw [Call_eq]
        refine stepCall_mono C h1 h2 f args s r ?_
        simp only [stepCall, hn f he]
        rw [hf] at h
        exact h
    · rw [Loop_eq]
      exact stepLoop_mono h1 h2 b keep A s r h

/-- A list of calls that see no object, with their answers. -/
structure Fact where
  f : Nat
  args : List AVal
  v : AVal

def Fact.holds (C : Cfg) (x : Fact) : Prop := Call C x.f x.args ⟨0, []⟩ = some (x.v, ⟨0, []⟩)
def lookFact (f : Nat) (args : List AVal) : List Fact → Option AVal
  | [] => none
  | x :: l => if x.f == f && sameL x.args args then some x.v else lookFact f args l
def Cfg.know (C : Cfg) (fs : List Fact) : Cfg where
  funcs := C.funcs
  ext := fun f => if fs.any (fun x => x.f == f) then some (fun args s => match s with
      | ⟨0, []⟩ => (lookFact f args fs).map fun v => (v, ⟨0, []⟩)
      | _ => none) else C.ext f

theorem lookFact_mem {f : Nat} {args : List AVal} {v : AVal} : ∀ {fs : List Fact}, lookFact f args fs = some v → ∃ x ∈ fs, x.f = f ∧ x.args = args ∧ x.v = v
  | x :: l, h => by
    simp only [lookFact] at h
    split at h
    · rename_i hx
      simp only [Bool.and_eq_true, beq_iff_eq] at hx
      cases h
      exact ⟨x, by simp, hx.1, sameL_eq hx.2, rfl⟩
    · obtain ⟨y, h1, h2⟩ := lookFact_mem h
      exact ⟨y, by simp [h1], h2⟩

theorem Call_know {C : Cfg} {fs : List Fact} (hfs : ∀ x ∈ fs, x.holds C) {k f : Nat} {args : List AVal} {s : ASt} {r : AVal × ASt} (h : (uptoR (C.know fs) k).1 f args s = some r) : Call C f args s = some r := by
  rw [uptoR_eq, uptoF_eq] at h
  refine (Call_more (C := C) (C' := C.know fs) rfl ?_ ?_ k).1 f args s r h
  · intro f g hg args s r hr
    simp only [Cfg.know] at hg
    split at hg
    · cases hg
      obtain ⟨n, os⟩ := s
      cases n with
      | succ n => cases hr
      | zero =>
        cases os with
        | cons o os => cases hr
        | nil =>
          obtain ⟨v, hv, rfl⟩ := map_some' hr
          obtain ⟨x, hx, rfl, rfl, rfl⟩ := lookFact_mem hv
          exact hfs x hx
    · rw [Call_eq]
      simp only [stepCall, hg]
      exact hr
  · intro f hf
    simp only [Cfg.know] at hf
    split at hf
    · cases hf
    · exact hf

end Go.Proofs.YtdhgdpokdhjanaaGreat.Abs
/- Functions of the library that are met by the kit's contracts: strings.Join, strings.Repeat. -/
namespace Go.Proofs.YtdhgdpokdhjanaaGreat.Abs
open Go Go.RowKit

section
variable {P : Program} {fm : Nat → Nat} {g : Gh} {s : ASt} {w w' : World}

theorem below_heap (hb : Below w.heap.size w w') {b : Nat} {o : Obj} (h : w.heap[b]? = some o) : w'.heap[b]? = some o := by
  rw [hb.block b (Array.getElem?_eq_some_iff.1 h).1, h]

theorem Sim.below (hS : Sim fm s g w) (hb : Below w.heap.size w w') : Sim fm s g w' where
  size := hS.size
  objs := fun r o hr b hg => by
    have h := hS.objs r o hr b hg
    cases o with
    | cells cs =>
      obtain ⟨c, elem, h1, h2, h3⟩ := h
      exact ⟨c, elem, below_heap hb h1, h2, h3⟩
    | bld l =>
      obtain ⟨p, v, h1, h2, h3⟩ := h
      refine ⟨p, v, below_heap hb h1, h2, ?_⟩
      rcases h3 with h3 | ⟨b2, cap, cur, fz, q1, q2, q0, q3, q4⟩
      · exact .inl h3
      · exact .inr ⟨b2, cap, cur, fz, q1, q2, q0, below_heap hb q3, q4⟩
    | map ks vs =>
      obtain ⟨es, clock, h1, h2⟩ := h
      exact ⟨es, clock, below_heap hb h1, h2⟩
    | dead => trivial
  objn := fun r b hg => by
    obtain ⟨e1, e2, e3, e4⟩ := hS.objn r b hg
    exact ⟨e1, e2, Nat.lt_of_lt_of_le e3 hb.size, e4⟩
  st := fun b h => by
    obtain ⟨c, elem, fr, h1, h2⟩ := hS.st b h
    exact ⟨c, elem, fr, below_heap hb h1, h2⟩
  mst := fun b ks vs h => by
    obtain ⟨es, clock, h1, h2⟩ := hS.mst b ks vs h
    exact ⟨es, clock, below_heap hb h1, h2⟩
  fresh := fun b h => hS.fresh b (Nat.le_trans hb.size h)

theorem kept_below (hS : Sim fm s g w) (hb : Below w.heap.size w w') : Kept g g w w' := by
  refine ⟨fun b x hx => ⟨⟨rfl, rfl, rfl⟩, ?_⟩, hb.os, hb.output, fun _ _ _ => rfl⟩
  rcases Nat.lt_or_ge b w.heap.size with h | h
  · exact hb.block b h
  · have := (hS.fresh b h).1
    rw [hx] at this
    cases this

/-- A contract that says what comes back and that nothing that was there has changed. -/
theorem post_below {f : Nat} {vs : Array Value} {m : Nat} {v : AVal} {cv : Value} (hS : Sim fm s g w) (hr : Rep fm g s.n v cv)
    (h : Calls P f vs w fun e w' => e = .returned cv ∧ Below w.heap.size w w') : CallsIn (FW none) m P f vs w (CallPost fm g w s s v) := by
  refine CallsIn.mono (F := FW none) (show CallsIn (FW none) m P f vs w _ from callsIn_wide.2 h) ?_
  rintro e w' ⟨rfl, hb⟩
  exact ⟨cv, g, rfl, hS.below hb, le.refl _ _, Nat.le_refl _, kept_below hS hb, hr.slot⟩

def strsOf : List AVal → Option (List (List UInt8))
  | [] => some []
  | .str l :: r => (strsOf r).map (l :: ·)
  | _ => none

def extJoin : List AVal → ASt → Option (AVal × ASt)
  | [.nils, .str _], s => some (.str [], s)
  | [.sl [] n _, .str _], s => if n = 0 then some (.str [], s) else none
  | [.sl cs n _, .str sep], s => (strsOf cs).bind fun l => if cs.length = n ∧ n ≤ limit ∧ (Lib.join l sep).length ≤ limit then some (.str (Lib.join l sep), s) else none
  | _, _ => none
def extRepeat : List AVal → ASt → Option (AVal × ASt)
  | [.str l, .int .i64 n], s => if 0 ≤ n ∧ n ≤ limit ∧ l.length * n.toNat ≤ limit then some (.str (Lib.repeatL l n.toNat), s) else none
  | _, _ => none

def JoinSaid (P : Program) (f : Nat) : Prop := ∀ (bk o c : Nat) (xs : List ByteArray) (sep : ByteArray) (w : World),
    (∀ (j : Nat) (x : ByteArray), xs[j]? = some x → w.cell? ⟨bk, o + j, none⟩ = some (.string x)) → bk < w.heap.size → xs.length ≤ 140737488355328 → xs.length ≤ c →
    (Lib.join (xs.map (·.data.toList)) sep.data.toList).length ≤ 140737488355328 →
    Calls P f #[.slice (some ⟨bk, o, none⟩) xs.length c, .string sep] w fun e w' => e = .returned (.string ⟨(Lib.join (xs.map (·.data.toList)) sep.data.toList).toArray⟩) ∧ Below w.heap.size w w'
def JoinNone (P : Program) (f : Nat) : Prop := ∀ (a : Option Addr) (c : Nat) (sep : ByteArray) (w : World), Calls P f #[.slice a 0 c, .string sep] w fun e w' => e = .returned (.string ⟨#[]⟩) ∧ w' = w
def RepeatSaid (P : Program) (f : Nat) : Prop := ∀ (s : ByteArray) (c : Nat) (w : World), c ≤ 9223372036854775807 → s.size * c ≤ 140737488355328 →
    Calls P f #[.string s, .int .i64 c] w fun e w' => e = .returned (.string ⟨(Lib.repeatL s.data.toList c).toArray⟩) ∧ Below w.heap.size w w'

theorem strsOf_rep {n : Nat} : ∀ {cs : List AVal} {l : List (List UInt8)} {vs : List Value}, strsOf cs = some l → RepL fm g n cs vs →
    vs = l.map (fun x => Value.string ⟨x.toArray⟩) ∧ cs.length = l.length
  | [], l, vs, h, hr => by
    cases h
    cases hr
    exact ⟨rfl, rfl⟩
  | a :: cs, l, vs, h, hr => by
    cases a <;> simp only [strsOf] at h <;> try (cases h; done)
    obtain ⟨r, h1, rfl⟩ := map_some' h
    cases hr with
    | cons _ _ _ _ ha ht =>
    cases ha
    obtain ⟨q1, q2⟩ := strsOf_rep h1 ht
    exact ⟨by simp [q1], by simp [q2]⟩

theorem join_none {f : Nat} (hN : JoinNone P f) (hS : Sim fm s g w) (a : Option Addr) (c m : Nat) (sep : ByteArray) :
    CallsIn (FW none) m P f #[.slice a 0 c, .string sep] w (CallPost fm g w s s (.str [])) :=
  post_below hS (Rep.str []) ((hN a c sep w).mono fun e w' ⟨he, hw⟩ => ⟨he, hw ▸ Below.refl _ _⟩)

theorem join_sound {f : Nat} (hJ : JoinSaid P f) (hN : JoinNone P f) {args : List AVal} {v : AVal} {s' : ASt} (h : extJoin args s = some (v, s')) (hS : Sim fm s g w) {vs : Array Value} (hR : RepL fm g s.n args vs.toList) (m : Nat) :
    CallsIn (FW none) m P f vs w (CallPost fm g w s s' v) := by
  have two : ∀ (x y : AVal), RepL fm g s.n [x, y] vs.toList → ∃ a b, vs = #[a, b] ∧ Rep fm g s.n x a ∧ Rep fm g s.n y b := by
    intro x y hR
    generalize hvs : vs.toList = vl at hR
    cases hR with
    | cons _ v1 _ _ h1 ht =>
    cases ht with
    | cons _ v2 _ _ h2 ht =>
    cases ht with
    | nil =>
    exact ⟨v1, v2, Array.ext' hvs, h1, h2⟩
  unfold extJoin at h
  split at h
  · cases h
    obtain ⟨a, b, rfl, h1, h2⟩ := two _ _ hR
    cases h1
    cases h2
    exact join_none hN hS _ _ _ _
  · split at h
    · rename_i hn
      cases h
      obtain ⟨a, b, rfl, h1, h2⟩ := two _ _ hR
      subst hn
      cases h2
      cases h1
      · exact join_none hN hS _ _ _ _
      · exact join_none hN hS _ _ _ _
    · cases h
  · rename_i cs n o sep hne
    obtain ⟨l, hl, h⟩ := bind_some' h
    split at h
    · rename_i hc
      cases h
      obtain ⟨a, b, rfl, h1, h2⟩ := two _ _ hR
      cases h1 with
      | sl0 ad cap => exact absurd rfl hne
      | sl _ _ _ b base cap us ho hcap hu hp =>
      cases h2
      obtain ⟨q1, q2⟩ := strsOf_rep hl hu
      have hcell := fun i u (hu : us[i]? = some u) => hS.cell hp hu
      have hlen : (l.map fun x => (⟨x.toArray⟩ : ByteArray)).length = n := by rw [List.length_map, ← q2, hc.1]
      have hm : (l.map fun x => (⟨x.toArray⟩ : ByteArray)).map (·.data.toList) = l := by simp [Function.comp_def]
      refine post_below hS (Rep.str _) ?_
      have := hJ b base cap (l.map fun x => ⟨x.toArray⟩) ⟨sep.toArray⟩ w
      rw [hlen, hm] at this
      refine this (fun j x hx => hcell j _ (by rw [q1]; simpa [Function.comp_def] using hx)) ?_ ?_ hcap ?_
      · cases l with
        | nil =>
          cases cs with
          | nil => exact absurd rfl hne
          | cons a cs => simp at q2
        | cons x l =>
          have := hcell 0 (.string ⟨x.toArray⟩) (by simp [q1])
          rcases Nat.lt_or_ge b w.heap.size with h | h
          · exact h
          · simp [World.cell?, Array.getElem?_eq_none h] at this
      · have := hc.2.1
        unfold limit at this
        omega
      · have := hc.2.2
        unfold limit at this
        have e : (⟨sep.toArray⟩ : ByteArray).data.toList = sep := by simp
        rw [e]
        omega
    · cases h
  · cases h

theorem repeat_sound {f : Nat} (hJ : RepeatSaid P f) {args : List AVal} {v : AVal} {s' : ASt} (h : extRepeat args s = some (v, s')) (hS : Sim fm s g w) {vs : Array Value} (hR : RepL fm g s.n args vs.toList) (m : Nat) :
    CallsIn (FW none) m P f vs w (CallPost fm g w s s' v) := by
  unfold extRepeat at h
  split at h
  · rename_i l n
    split at h
    · rename_i hc
      cases h
      generalize hvs : vs.toList = vl at hR
      cases hR with
      | cons _ v1 _ _ h1 ht =>
      cases ht with
      | cons _ v2 _ _ h2 ht =>
      cases ht with
      | nil =>
      obtain rfl : vs = #[v1, v2] := Array.ext' hvs
      cases h1
      cases h2
      refine post_below hS (Rep.str _) ?_
      have h2 := hc.2.1
      have h3 := hc.2.2
      unfold limit at h2 h3
      have := hJ ⟨l.toArray⟩ n.toNat w (by omega) (by
        have : (⟨l.toArray⟩ : ByteArray).size = l.length := by simp [ByteArray.size]
        rw [this]; omega)
      rw [Int.toNat_of_nonneg hc.1] at this
      simpa using this
    · cases h
  · cases h

end
end Go.Proofs.YtdhgdpokdhjanaaGreat.Abs
/- What comes in: plain data, every block of it another's and steady. -/
namespace Go.Proofs.YtdhgdpokdhjanaaGreat.Abs
open Go

def Gh.first (W : World) : Gh where
  obj := fun _ => none
  own := fun b => if b < W.heap.size then .other false else .free
  st := fun b => cellsAt W b
  mst := fun _ => none
  vec := fun _ _ => none
  sz := fun b => (cellsAt W b).length

mutual
def dcells {H : Type} : DataW H → List AVal
  | .lit (.bool b) => [.bool b]
  | .lit (.int k n) => [.int k n]
  | .lit (.string l) => [.str l]
  | .nil => [.nils]
  | .slice elems _ => [.sl (dcellsL elems) elems.length .none]
  | .agg parts => dcellsL parts
  | _ => []
def dcellsL {H : Type} : List (DataW H) → List AVal
  | [] => []
  | d :: l => dcells d ++ dcellsL l
end

section
variable (P : Program) (S : List Nat)
def contig : Nat → List Field → Nat → Bool
  | k, [], n => k == n
  | k, f :: r, n => f.offset == k && S.contains f.type && contig (k + P.cellsOf f.type) r n
def plainAt (t : Nat) : Bool := match P.underlying t with
  | some .bool | some (.int _) | some .string => P.cellsOf t == 1
  | some (.slice e) => P.cellsOf t == 1 && S.contains e && P.cellsOf e != 0
  | some (.struct fs) => contig P S 0 fs.toList (P.cellsOf t)
  | _ => false
end

section
variable {P : Program} {S : List Nat} {fm : Nat → Nat} {W : World} {H : Type} {enc : TypeId × Value → H} {sp : Nat → Bool} {held : Bool}

theorem Sim.first : Sim fm ⟨0, []⟩ (Gh.first W) W where
  size := rfl
  objs := fun r o h => by simp [ASt.get, getL] at h
  objn := fun r b h => by simp [Gh.first] at h
  st := fun b h => by
    have h : cellsAt W b ≠ [] := by
      rcases h with h | h
      · exact h
      · simp only [Gh.first] at h
        split at h <;> simp [Tag.held] at h
    unfold Gh.first
    simp only
    unfold cellsAt at h ⊢
    split at h
    · rename_i c elem fr hw
      refine ⟨c, elem, fr, hw, ?_, ?_, fun hh => ?_⟩
      · simp
      · simp
      · split at hh <;> simp [Tag.held] at hh
    · exact absurd rfl h
  mst := fun b ks vs h => by simp [Gh.first] at h
  fresh := fun b h => by
    have h0 : ¬ b < W.heap.size := by omega
    refine ⟨by simp [Gh.first, h0], ?_, rfl⟩
    simp [Gh.first, cellsAt, Array.getElem?_eq_none h]

theorem dcellsL_append (l m : List (DataW H)) : dcellsL (l ++ m) = dcellsL l ++ dcellsL m := by
  induction l with
  | nil => rfl
  | cons d l ih => simp [dcellsL, ih]

theorem contig_le : ∀ {fs : List Field} {k n : Nat}, contig P S k fs n = true → k ≤ n
  | [], k, n, h => by simp [contig] at h; omega
  | f :: r, k, n, h => by
    simp only [contig, Bool.and_eq_true] at h
    have := contig_le h.2
    omega

theorem take_split {α : Type} (l : List α) (k s n : Nat) (h : k + s ≤ n) : (l.drop k).take (n - k) = (l.drop k).take s ++ (l.drop (k + s)).take (n - (k + s)) := by
  rw [show n - k = s + (n - (k + s)) from by omega, List.take_add, List.drop_drop]

theorem fields_rep {g : Gh} {m : Nat} {cs : List Value} : ∀ {fs : List Field} {xs : List (DataW H × List MemPlace)} {k n : Nat}, contig P S k fs n = true → xs.length = fs.length →
    (∀ (i : Nat) f x, fs[i]? = some f → xs[i]? = some x → RepL fm g m (dcells x.1) ((cs.drop f.offset).take (P.cellsOf f.type))) → RepL fm g m (dcellsL (xs.map (·.1))) ((cs.drop k).take (n - k))
  | [], [], k, n, h, _, _ => by
    simp [contig] at h
    subst h
    simpa [dcellsL] using RepL.nil
  | f :: fs, x :: xs, k, n, h, hl, hr => by
    simp only [contig, Bool.and_eq_true, beq_iff_eq] at h
    have hle := contig_le h.2
    rw [take_split cs k (P.cellsOf f.type) n hle]
    have h0 := hr 0 f x rfl rfl
    rw [h.1.1] at h0
    exact h0.append (fields_rep h.2 (by simpa using hl) (fun i f' x' hf hx => hr (i + 1) f' x' (by simpa using hf) (by simpa using hx)))
  | [], _ :: _, _, _, _, hl, _ => by simp at hl
  | _ :: _, [], _, _, _, hl, _ => by simp at hl

theorem add_block (a : Addr) (i : Nat) : (a.add i).block = a.block := by unfold Addr.add; split <;> rfl
theorem add_off (a : Addr) (i : Nat) : (a.add i).off = a.off + i := by
  unfold Addr.add
  split
  · rename_i h; rw [h]; rfl
  · rfl
theorem cells_cut {a : Addr} {n : Nat} {l : List Value} (h : W.cells? 0 a n = some l) (hn : n ≠ 0) : a.spot = none ∧ l = ((cellsAt W a.block).drop a.off).take n ∧ l.length = n := by
  unfold World.cells? at h
  rw [if_pos (Nat.zero_le _)] at h
  obtain ⟨h1, h2⟩ := mapM_some h
  have hlen : l.length = n := by simpa using h1.symm
  have hc : ∀ i, i < n → ∃ y, l[i]? = some y ∧ W.cell? (a.add i) = some y := fun i hi => h2 i i (by simp [hi])
  obtain ⟨y0, _, hy0⟩ := hc 0 (by omega)
  have hspot : a.spot = none := by
    unfold World.cell? at hy0
    split at hy0
    · split at hy0
      · cases hy0
      · rename_i hs
        cases hsp : a.spot with
        | none => rfl
        | some x => simp [Addr.add, hsp] at hs
    · cases hy0
  refine ⟨hspot, ?_, hlen⟩
  have hcell : ∀ i v, W.cell? (a.add i) = some v → (cellsAt W a.block)[a.off + i]? = some v := by
    intro i v hv
    unfold World.cell? at hv
    unfold cellsAt
    have hb : (a.add i).block = a.block := add_block a i
    rw [hb] at hv
    split at hv
    · rename_i c e fr hw
      rw [hw]
      split at hv
      · cases hv
      · rw [add_off] at hv; simpa using hv
    · cases hv
  apply List.ext_getElem?
  intro i
  by_cases hi : i < n
  · obtain ⟨y, h3, h4⟩ := hc i hi
    rw [h3, List.getElem?_take, if_pos hi, List.getElem?_drop]
    exact (hcell i y h4).symm
  · rw [List.getElem?_eq_none (by omega), List.getElem?_take, if_neg hi]

theorem rows_rep {g : Gh} {m sz : Nat} {cs : List Value} : ∀ {xs : List (DataW H × List MemPlace)} {k : Nat},
    (∀ (i : Nat) x, xs[i]? = some x → RepL fm g m (dcells x.1) ((cs.drop (k + i * sz)).take sz)) → RepL fm g m (dcellsL (xs.map (·.1))) ((cs.drop k).take (xs.length * sz))
  | [], k, _ => by simpa [dcellsL] using RepL.nil
  | x :: xs, k, h => by
    have h0 := h 0 x rfl
    rw [Nat.zero_mul, Nat.add_zero] at h0
    have ht := rows_rep (xs := xs) (k := k + sz) (fun i y hy => by
      have := h (i + 1) y (by simpa using hy)
      rw [show k + (i + 1) * sz = k + sz + i * sz from by rw [Nat.add_mul]; omega] at this
      exact this)
    have := h0.append ht
    rw [show (x :: xs).length * sz = sz + xs.length * sz from by simp [Nat.add_mul]; omega, List.take_add, List.drop_drop]
    exact this

theorem trod_rep (hS : ∀ t ∈ S, plainAt P S t = true) : ∀ (fuel t : Nat) (cs : List Value) (x : DataW H × List MemPlace), t ∈ S → DataW.trod enc P W 0 sp held fuel t cs = some x →
    RepL fm (Gh.first W) 0 (dcells x.1) cs ∧ cs.length = P.cellsOf t := by
  intro fuel
  induction fuel with
  | zero => intro t cs x _ h; simp [DataW.trod] at h
  | succ fuel ih =>
    intro t cs x ht h
    have hp := hS t ht
    unfold plainAt at hp
    split at hp
    · rename_i hu
      obtain ⟨b, rfl, rfl⟩ := DataW.trod_bool hu h
      exact ⟨.cons _ _ _ _ (.bool b) .nil, by simpa using (beq_iff_eq.1 hp).symm⟩
    · rename_i k hu
      obtain ⟨n, rfl, rfl, _⟩ := DataW.trod_int hu h
      exact ⟨.cons _ _ _ _ (.int k n) .nil, by simpa using (beq_iff_eq.1 hp).symm⟩
    · rename_i hu
      obtain ⟨s, rfl, rfl, _⟩ := DataW.trod_string hu h
      refine ⟨.cons _ _ _ _ ?_ .nil, by simpa using (beq_iff_eq.1 hp).symm⟩
      have : Rep fm (Gh.first W) 0 (.str s.data.toList) (.string ⟨s.data.toList.toArray⟩) := .str _
      have e : (⟨s.data.toList.toArray⟩ : ByteArray) = s := by cases s; simp
      rwa [e] at this
    · rename_i e hu
      simp only [Bool.and_eq_true, beq_iff_eq, bne_iff_ne, ne_eq] at hp
      obtain ⟨⟨hp1, hp2⟩, hp3⟩ := hp
      have he : e ∈ S := by simpa using hp2
      rcases DataW.trod_slice hu h with ⟨rfl, rfl⟩ | ⟨a, len, cap, elems, rest, n, hf, rfl, rfl, _, hle, _, hlen, hel, _⟩
      · exact ⟨.cons _ _ _ _ .nils .nil, by simp [hp1]⟩
      · cases hf
        refine ⟨.cons _ _ _ _ ?_ .nil, by simp [hp1]⟩
        by_cases h0 : len = 0
        · subst h0
          have : elems = [] := List.length_eq_zero_iff.1 hlen
          subst this
          exact .sl0 a cap
        · have hone : ∀ (i : Nat) y, elems[i]? = some y → (i = 0 → a.spot = none) ∧ RepL fm (Gh.first W) 0 (dcells y.1) (((cellsAt W a.block).drop (a.off + i * P.cellsOf e)).take (P.cellsOf e)) := by
            intro i y hy
            have hi : i < len := by rw [← hlen]; exact (List.getElem?_eq_some_iff.1 hy).1
            have h1 := hel i hi
            rw [hy] at h1
            obtain ⟨l, hl, htr⟩ := bind_some' h1
            obtain ⟨q1, q2, q3⟩ := cells_cut hl hp3
            have := (ih e l y he htr).1
            rw [q2, add_block, add_off] at this
            refine ⟨fun h0 => ?_, this⟩
            subst h0
            rw [Nat.zero_mul] at q1
            exact q1
          obtain ⟨y0, hy0⟩ : ∃ y0, elems[0]? = some y0 := ⟨elems[0], by simp⟩
          have hspot := (hone 0 y0 hy0).1 rfl
          have hrows := rows_rep (sz := P.cellsOf e) (k := a.off) (cs := cellsAt W a.block) (xs := elems) (fun i y hy => (hone i y hy).2)
          obtain ⟨ab, ao, asp⟩ := a
          simp only at hspot
          subst hspot
          have hlen' : (elems.map (·.1)).length = len := by simp [hlen]
          show Rep fm (Gh.first W) 0 (.sl (dcellsL (elems.map (·.1))) (elems.map (·.1)).length .none) _
          rw [hlen']
          refine .sl _ _ _ ab ao cap _ (.inl rfl) hle hrows ?_
          show _ <+: (cellsAt W ab).drop ao
          exact List.take_prefix _ _
    · rename_i fs hu
      obtain ⟨xs, n, hf, rfl, hcl, hxl, hall⟩ := DataW.trod_struct hu h
      cases hf
      refine ⟨?_, hcl⟩
      have hmem : ∀ (fs : List Field) (k n : Nat), contig P S k fs n = true → ∀ f ∈ fs, f.type ∈ S := by
        intro fs
        induction fs with
        | nil => intro _ _ _ f hf; cases hf
        | cons f0 fs ih2 =>
          intro k n hc f hf
          simp only [contig, Bool.and_eq_true] at hc
          rcases List.mem_cons.1 hf with rfl | hf
          · simpa using hc.1.2
          · exact ih2 _ _ hc.2 f hf
      have := fields_rep (fm := fm) (g := Gh.first W) (m := 0) (cs := cs) hp (xs := xs) (by simpa using hxl) (fun i f y hf hy => by
        have h1 := hall i f (by simpa using hf)
        rw [hy] at h1
        exact (ih f.type _ y (hmem _ _ _ hp f (List.mem_of_getElem? hf)) h1).1)
      simp only [List.drop_zero, Nat.sub_zero, ← hcl, List.take_length] at this
      exact this
    · cases hp

end
end Go.Proofs.YtdhgdpokdhjanaaGreat.Abs
/- The plain data that came in reads behind the call as it read before. -/
namespace Go.Proofs.YtdhgdpokdhjanaaGreat.Abs
open Go

section
variable {P : Program} {S : List Nat} {W W' : World} {H : Type} {enc : TypeId × Value → H} {sp sp' : Nat → Bool} {held : Bool}

theorem mapM_all {α β : Type} {f : α → Option β} : ∀ {l : List α} {r : List β}, l.length = r.length → (∀ (i : Nat) (x : α) (y : β), l[i]? = some x → r[i]? = some y → f x = some y) → l.mapM f = some r
  | [], [], _, _ => rfl
  | a :: l, b :: r, hl, h => by
    have h0 := h 0 a b rfl rfl
    have ht := mapM_all (l := l) (r := r) (by simpa using hl) (fun i x y hx hy => h (i + 1) x y (by simpa using hx) (by simpa using hy))
    simp [List.mapM_cons, h0, ht]
  | [], _ :: _, h, _ => by simp at h
  | _ :: _, [], h, _ => by simp at h

theorem cell_later (hb : ∀ b, b < W.heap.size → W'.heap[b]? = W.heap[b]?) {a : Addr} {v : Value} (h : W.cell? a = some v) : W'.cell? a = some v := by
  have : a.block < W.heap.size := by
    rcases Nat.lt_or_ge a.block W.heap.size with h' | h'
    · exact h'
    · simp [World.cell?, Array.getElem?_eq_none h'] at h
  unfold World.cell? at h ⊢
  rw [hb _ this]
  exact h

theorem cells_later (hb : ∀ b, b < W.heap.size → W'.heap[b]? = W.heap[b]?) {a : Addr} {n : Nat} {l : List Value} (h : W.cells? 0 a n = some l) : W'.cells? 0 a n = some l := by
  unfold World.cells? at h ⊢
  rw [if_pos (Nat.zero_le _)] at h ⊢
  obtain ⟨h1, h2⟩ := mapM_some h
  refine mapM_all h1 (fun i x y hx hy => ?_)
  obtain ⟨z, hz, hzz⟩ := h2 i x hx
  rw [hy] at hz
  cases hz
  exact cell_later hb hzz

theorem trod_later (hS : ∀ t ∈ S, plainAt P S t = true) (hb : ∀ b, b < W.heap.size → W'.heap[b]? = W.heap[b]?) : ∀ (fuel t : Nat) (cs : List Value) (x : DataW H × List MemPlace), t ∈ S →
    DataW.trod enc P W 0 (fun _ => true) held fuel t cs = some x → (∀ p ∈ x.2, sp' p.block = true) → DataW.trod enc P W' 0 sp' held fuel t cs = some x := by
  intro fuel
  induction fuel with
  | zero => intro t cs x _ h; simp [DataW.trod] at h
  | succ fuel ih =>
    intro t cs x ht h hsp
    have hp := hS t ht
    unfold plainAt at hp
    split at hp
    · rename_i hu
      obtain ⟨b, rfl, rfl⟩ := DataW.trod_bool hu h
      simp [DataW.trod, hu]
    · rename_i k hu
      obtain ⟨n, rfl, rfl, hw⟩ := DataW.trod_int hu h
      simp [DataW.trod, hu, hw]
    · rename_i hu
      obtain ⟨s, rfl, rfl, hw⟩ := DataW.trod_string hu h
      simp [DataW.trod, hu, hw]
    · rename_i e hu
      simp only [Bool.and_eq_true, beq_iff_eq, bne_iff_ne, ne_eq] at hp
      obtain ⟨⟨hp1, hp2⟩, hp3⟩ := hp
      have he : e ∈ S := by simpa using hp2
      rcases DataW.trod_slice hu h with ⟨rfl, rfl⟩ | ⟨a, len, cap, elems, rest, n, hf, rfl, rfl, hba, hle, hmx, hlen, hel, hrest, _⟩
      · simp [DataW.trod, hu]
      · cases hf
        obtain ⟨hr1, hr2⟩ := hrest rfl
        have hin : ∀ y, y ∈ elems ++ rest → ∀ p ∈ y.2, sp' p.block = true := fun y hy p hpp =>
          hsp p (List.mem_append_right _ (List.mem_flatMap.2 ⟨y, hy, hpp⟩))
        have one : ∀ k y, (W.cells? 0 (a.add (k * P.cellsOf e)) (P.cellsOf e)).bind (DataW.trod enc P W 0 (fun _ => true) held fuel e) = some y → y ∈ elems ++ rest →
            (W'.cells? 0 (a.add (k * P.cellsOf e)) (P.cellsOf e)).bind (DataW.trod enc P W' 0 sp' held fuel e) = some y := by
          intro k y hk hy
          obtain ⟨l, hl, htr⟩ := bind_some' hk
          rw [cells_later hb hl]
          exact ih e l y he htr (hin y hy)
        have h1 : (List.range len).mapM (fun i => (W'.cells? 0 (a.add (i * P.cellsOf e)) (P.cellsOf e)).bind (DataW.trod enc P W' 0 sp' held fuel e)) = some elems := by
          refine mapM_all (by simp [hlen]) (fun i k y hi hy => ?_)
          obtain ⟨hlt, rfl⟩ : i < len ∧ i = k := by
            simp only [List.getElem?_eq_some_iff, List.length_range, List.getElem_range] at hi
            exact ⟨hi.1, hi.2⟩
          exact one i y (by rw [hel i hlt, hy]) (List.mem_append_left _ (List.mem_of_getElem? hy))
        have h2 : (List.range (cap - len)).mapM (fun j => (W'.cells? 0 (a.add ((len + j) * P.cellsOf e)) (P.cellsOf e)).bind (DataW.trod enc P W' 0 sp' held fuel e)) = some rest := by
          refine mapM_all (by simp [hr1]) (fun i k y hi hy => ?_)
          obtain ⟨hlt, rfl⟩ : i < cap - len ∧ i = k := by
            simp only [List.getElem?_eq_some_iff, List.length_range, List.getElem_range] at hi
            exact ⟨hi.1, hi.2⟩
          exact one (len + i) y (by rw [hr2 i hlt, hy]) (List.mem_append_right _ (List.mem_of_getElem? hy))
        have hif : (if sp' a.block = true then (List.range (cap - len)).mapM (fun j => (W'.cells? 0 (a.add ((len + j) * P.cellsOf e)) (P.cellsOf e)).bind (DataW.trod enc P W' 0 sp' held fuel e)) else some []) = some rest := by
          by_cases hs : sp' a.block = true
          · rw [if_pos hs, h2]
          · rw [if_neg hs]
            have hnil : rest = [] := by
              apply Classical.byContradiction
              intro hrr
              refine hs ?_
              have hlen0 : rest.length ≠ 0 := fun h0 => hrr (List.length_eq_zero_iff.1 h0)
              have hpos : 0 < (elems.length + rest.length) * P.cellsOf e := Nat.mul_pos (by omega) (by omega)
              have := hsp (.cell a.block a.off) (List.mem_append_left _ (List.mem_map.2 ⟨0, List.mem_range.2 hpos, rfl⟩))
              simpa [MemPlace.block] using this
            rw [hnil]
        simp only [DataW.trod, hu]
        rw [if_pos ⟨hba, hle, hmx⟩, h1]
        simp only [Option.bind_some, hif, Option.map_some]
    · rename_i fs hu
      obtain ⟨xs, n, hf, rfl, hcl, hxl, hall⟩ := DataW.trod_struct hu h
      cases hf
      have hmem : ∀ (fs : List Field) (k n : Nat), contig P S k fs n = true → ∀ f ∈ fs, f.type ∈ S := by
        intro fs
        induction fs with
        | nil => intro _ _ _ f hf; cases hf
        | cons f0 fs ih2 =>
          intro k n hc f hf
          simp only [contig, Bool.and_eq_true] at hc
          rcases List.mem_cons.1 hf with rfl | hf
          · simpa using hc.1.2
          · exact ih2 _ _ hc.2 f hf
      have h1 : fs.toList.mapM (fun f => DataW.trod enc P W' 0 sp' held fuel f.type ((cs.drop f.offset).take (P.cellsOf f.type))) = some xs := by
        refine mapM_all (by simp [hxl]) (fun i f y hf hy => ?_)
        have h1 := hall i f (by simpa using hf)
        rw [hy] at h1
        exact ih f.type _ y (hmem _ _ _ hp f (List.mem_of_getElem? hf)) h1 (fun p hpp => hsp p (List.mem_flatMap.2 ⟨y, List.mem_of_getElem? hy, hpp⟩))
      exact ChangeShapes.trod_struct_mk hu hcl h1
    · cases hp

end
end Go.Proofs.YtdhgdpokdhjanaaGreat.Abs
/- From what the abstract machine answers to what the row asks of a law. -/
namespace Go.Proofs.YtdhgdpokdhjanaaGreat.Abs
open Go Go.RowKit

section
variable {P : Program} {S : List Nat} {fm : Nat → Nat} {W W' : World} {H : Type} {enc : TypeId × Value → H}

theorem trodAll_rep (hS : ∀ t ∈ S, plainAt P S t = true) {sp : Nat → Bool} {held : Bool} : ∀ {ts : List TypeId} {vs : List Value} {ds : List (DataW H)} {ps : List MemPlace}, (∀ t ∈ ts, t ∈ S) →
    DataW.TrodAll enc P W 0 sp held ts vs ds ps → ∃ cs, RepL fm (Gh.first W) 0 cs (vs.flatMap fun v => v.cells.toList) ∧ cs = dcellsL ds
  | [], [], [], _, _, _ => ⟨[], .nil, rfl⟩
  | t :: ts, v :: vs, d :: ds, ps, hts, h => by
    obtain ⟨p, q, ⟨fuel, h1⟩, h2, rfl⟩ := h
    obtain ⟨cs, q1, rfl⟩ := trodAll_rep hS (fun t ht => hts t (by simp [ht])) h2
    exact ⟨_, ((trod_rep (fm := fm) hS fuel t _ _ (hts t (by simp)) h1).1).append q1, rfl⟩
  | [], _ :: _, _, _, _, h => by simp [DataW.TrodAll] at h
  | _ :: _, [], _, _, _, h => by simp [DataW.TrodAll] at h
  | [], [], _ :: _, _, _, h => by simp [DataW.TrodAll] at h
  | _ :: _, _ :: _, [], _, _, h => by simp [DataW.TrodAll] at h

theorem trodAll_later (hS : ∀ t ∈ S, plainAt P S t = true) (hb : ∀ b, b < W.heap.size → W'.heap[b]? = W.heap[b]?) {sp' : Nat → Bool} {held : Bool} : ∀ {ts : List TypeId} {vs : List Value} {ds : List (DataW H)} {ps : List MemPlace}, (∀ t ∈ ts, t ∈ S) →
    DataW.TrodAll enc P W 0 (fun _ => true) held ts vs ds ps → (∀ p ∈ ps, sp' p.block = true) → DataW.TrodAll enc P W' 0 sp' held ts vs ds ps
  | [], [], [], _, _, h, _ => h
  | t :: ts, v :: vs, d :: ds, ps, hts, h, hp => by
    obtain ⟨p, q, ⟨fuel, h1⟩, h2, rfl⟩ := h
    exact ⟨p, q, ⟨fuel, trod_later hS hb fuel t _ _ (hts t (by simp)) h1 (fun x hx => hp x (List.mem_append_left _ hx))⟩,
      trodAll_later hS hb (fun t ht => hts t (by simp [ht])) h2 (fun x hx => hp x (List.mem_append_right _ hx)), rfl⟩
  | [], _ :: _, _, _, _, h, _ => by simp [DataW.TrodAll] at h
  | _ :: _, [], _, _, _, h, _ => by simp [DataW.TrodAll] at h
  | [], [], _ :: _, _, _, h, _ => by simp [DataW.TrodAll] at h
  | _ :: _, _ :: _, [], _, _, h, _ => by simp [DataW.TrodAll] at h

/-- 'post_of_same', the frozen places asked for where something came in alone. -/
theorem post_same {f : Func} {s : ChangeSpec} {apart fresh handsOn again : Bool} {args : Array Value} {v : Value} {ds gs : List (DataW H)} {before : List MemPlace}
    (hW : DataW.Whole enc P f.params.toList s.vars apart W args.toList ds gs before)
    (hres : ∀ (b : Nat) (sp : Nat → Bool) (hd : Bool), DataW.TrodAll enc P W' b sp hd f.resultTypes.toList (v.resultList f.resultTypes.size) (s.fn H (ds ++ gs)).results [])
    (hargs : ∀ sp : Nat → Bool, (∀ p ∈ before, sp p.block = true) → DataW.TrodAll enc P W' 0 sp true f.params.toList args.toList (s.fn H (ds ++ gs)).args before)
    (hvars : ∀ sp : Nat → Bool, (∀ p ∈ before, sp p.block = true) → DataW.TrodVars enc P W' sp s.vars (s.fn H (ds ++ gs)).vars [])
    (hk : W.keptBut W' (· ∈ before)) (hfz : ∀ b off, b < W.heap.size → W'.frozen? ⟨b, off, none⟩ = W.frozen? ⟨b, off, none⟩)
    (hok : ∀ (j : Nat) (t : TypeId) (r : Value), f.resultTypes[j]? = some t → (v.resultList f.resultTypes.size)[j]? = some r → Value.okWide P W' .any 0 t r) :
    s.post enc P f apart fresh handsOn again W args v W' := by
  have hold : ∀ p ∈ before, (fun b => decide (b < W.heap.size)) p.block = true := fun p hp => by simpa using hW.lt p hp
  refine ⟨ds, gs, before, [], before, [], hW, hres _ _ _, hargs _ hold, hvars _ hold, World.keptBut_mono (fun p hp => ⟨hp, .inr (.inl hp)⟩) hk, fun _ => ?_⟩
  have hlt := hW.lt
  obtain ⟨_, _, _, _, _, hz, hn⟩ := hW
  refine ⟨hok, _, _, ([] ++ before) ++ [], ⟨[] ++ before, [], ChangeShapes.trodAll_append (hargs _ (fun _ _ => rfl)) (hres _ _ _), hvars _ (fun _ _ => rfl), rfl, ?_, ?_⟩, ?_⟩
  · intro b off hp
    have hp' : MemPlace.cell b off ∈ before := by simpa using hp
    rw [hfz b off (by simpa [MemPlace.block] using hlt _ hp')]
    exact hz b off hp'
  · intro ha
    simpa using hn ha
  · intro p hp _
    simpa using hp

end
end Go.Proofs.YtdhgdpokdhjanaaGreat.Abs
/- The arguments of a law, and its whole contract. -/
namespace Go.Proofs.YtdhgdpokdhjanaaGreat.Abs
open Go Go.RowKit

section
variable {P : Program} {S : List Nat} {fm : Nat → Nat} {W W' : World} {H : Type} {enc : TypeId × Value → H} {sp : Nat → Bool} {held : Bool} {C : Cfg}

/-- A struct that comes in. -/
theorem arg_struct (hS : ∀ t ∈ S, plainAt P S t = true) {t base : Nat} {fs : Array Field} {v : Value} {d : DataW H} {p : List MemPlace} (ht : t ∈ S) (hu : P.underlying t = some (.struct fs))
    (hok : Value.okWide P W .any base t v) (h : DataW.Trod enc P W 0 sp held t v d p) : Rep fm (Gh.first W) 0 (.agg (dcells d)) v := by
  unfold Value.okWide at hok
  rw [hu] at hok
  obtain ⟨cs, rfl, _, _⟩ := hok
  obtain ⟨fuel, h⟩ := h
  have := (trod_rep (fm := fm) hS fuel t _ _ ht h).1
  have e : (Value.agg cs).cells.toList = cs.toList := rfl
  rw [e] at this
  have h2 := Rep.agg (dcells d) cs.toList this
  simpa using h2

/-- What is left of the world behind a call from plain data. -/
theorem first_kept {g' : Gh} (h : Kept (Gh.first W) g' W W') : W'.os = W.os ∧ W'.output = W.output ∧ ∀ b, b < W.heap.size → W'.heap[b]? = W.heap[b]? :=
  ⟨h.os, h.out, fun b hb => (h.blk b false (by simp [Gh.first, hb])).2⟩

theorem keptBut_of {may : MemPlace → Prop} (h1 : W'.os = W.os) (h2 : W'.output = W.output) (h3 : ∀ b, b < W.heap.size → W'.heap[b]? = W.heap[b]?) : W.keptBut W' may := by
  refine ⟨h1, h2, fun i hi => ?_⟩
  rw [h3 i hi]
  split <;> simp_all

theorem frozen_of (h3 : ∀ b, b < W.heap.size → W'.heap[b]? = W.heap[b]?) : ∀ b off, b < W.heap.size → W'.frozen? ⟨b, off, none⟩ = W.frozen? ⟨b, off, none⟩ := by
  intro b off hb
  simp only [World.frozen?, h3 b hb]

/-- THE WHOLE CONTRACT OF A LAW over plain data: the abstract machine answers true. -/
theorem law_calls (hC : Sound P fm C) {f : Nat} {fn : Func} {s : ChangeSpec} {apart fresh handsOn again : Bool} {args : Array Value} {ds gs : List (DataW H)} {before : List MemPlace} {xs0 : List AVal} {tb : Nat}
    (hS : ∀ t ∈ S, plainAt P S t = true) (hts : ∀ t ∈ fn.params.toList, t ∈ S) (hW : DataW.Whole enc P fn.params.toList s.vars apart W args.toList ds gs before) (hvars : s.vars = [])
    (hfn : s.fn H ds = { results := [.lit (.bool true)], args := ds }) (hr : fn.resultTypes = #[tb]) (htb : P.underlying tb = some .bool)
    (hargs : RepL fm (Gh.first W) 0 xs0 args.toList) {s' : ASt} (h : Call C f xs0 ⟨0, []⟩ = some (.bool true, s')) :
    Calls P (fm f) args W fun e W' => ∃ v, e = .returned v ∧ s.post enc P fn apart fresh handsOn again W args v W' := by
  refine (Call_calls hC h Sim.first hargs).mono ?_
  rintro e W' ⟨cv, g', rfl, _, _, _, hk, hres⟩
  have hcv : cv = .bool true := Rep.bool_inv hres
  subst hcv
  obtain ⟨k1, k2, k3⟩ := first_kept hk
  have hW' := hW
  obtain ⟨p, q, hA, hV, rfl, hfz, hnd⟩ := hW
  rw [hvars] at hV
  obtain ⟨rfl, rfl⟩ : gs = [] ∧ q = [] := by
    cases gs with
    | nil => exact ⟨rfl, hV⟩
    | cons _ _ => exact hV.elim
  simp only [List.append_nil] at hW'
  refine ⟨_, rfl, post_same hW' ?_ ?_ ?_ (keptBut_of k1 k2 k3) (frozen_of k3) ?_⟩
  · intro b sp hd
    rw [List.append_nil, hfn, hr]
    exact trodAll_cons_mk (shut_bool htb true) rfl
  · intro sp hsp
    rw [List.append_nil, hfn]
    exact trodAll_later hS k3 hts hA hsp
  · intro sp hsp
    rw [List.append_nil, hfn, hvars]
    rfl
  · exact ok_one hr rfl (okWide_bool_mk htb true)

end
end Go.Proofs.YtdhgdpokdhjanaaGreat.Abs
/- Regions whose order is open, whatever their instructions: by what holds whichever of them are done. -/
namespace Go.Proofs.YtdhgdpokdhjanaaGreat.Abs
open Go

section
variable {P : Program} {fm : Nat → Nat} {nt : Nat} {g g' g'' : Gh} {s s' s'' t : ASt} {A A' A'' B : Frame} {a a' a'' : Act} {w w' w'' : World} {call : CallFn}
variable {aos : List AOper} {ops : Array Oper}

def bindsDone (o : Oper) (X : Nat → Prop) : Prop := ∀ e ∈ o.after, Region.binds .any e = true → X e.on

theorem any_inv {r : Option Nat} {m : Nat} (hcall : CallSound P fm call) (hok : okOpers P fm nt ops aos ops.toList = true)
    (hback : ∀ (k : Nat) (o : Oper), ops[k]? = some o → ∀ e ∈ o.after, Region.binds .any e = true → e.on < k)
    (J : (Nat → Prop) → Frame → ASt → Prop)
    (hJ : ∀ (X : Nat → Prop) (B : Frame) (t : ASt) (i : Nat) (x : AOper) (o : Oper), J X B t → ¬ X i → aos[i]? = some x → ops[i]? = some o → bindsDone o X →
      ∃ B' t', OperStep call x B t B' t' ∧ J (fun k => X k ∨ k = i) B' t')
    {Q : Exit → Act → World → Prop} (hQ : ∀ X B t a' w' g', (∀ k, k < ops.size → X k) → J X B t → RPost fm nt g w s t B a a' g' w' → Q .normal a' w') :
    ∀ (fuel : Nat) (listed : Array Bool) (B : Frame) (t : ASt) (g1 : Gh) (w1 : World) (a1 : Act), listed.size = ops.size → listed.toList.count false ≤ fuel → J (fun k => listed.getD k false = true) B t →
      RPost fm nt g w s t B a a1 g1 w1 → wpAnyIn (FW r) m P .any ops Q fuel listed a1 w1 := by
  obtain ⟨hlen, hget⟩ := okOpers_get hok
  have ready_all : ∀ (listed : Array Bool), listed.size = ops.size → Region.ready .any ops listed = [] → ∀ k, k < ops.size → listed.getD k false = true := by
    intro listed hsz hr k
    induction k using Nat.strongRecOn with
    | _ k ih =>
      intro hk
      by_cases hl : listed.getD k false = true
      · exact hl
      · exfalso
        have hmem : k ∈ Region.ready .any ops listed := by
          rw [mem_ready]
          refine ⟨?_, ops[k], by simp [hk], fun e he hb => ?_⟩
          · have hkl : k < listed.size := by omega
            simp [hkl] at hl ⊢
            exact hl
          · have := hback k ops[k] (by simp [hk]) e (by simpa using he) hb
            exact ih e.on (by omega) (by omega)
        rw [hr] at hmem
        cases hmem
  intro fuel
  induction fuel with
  | zero =>
    intro listed B t g1 w1 a1 hsz hc hM hR
    have hall : ∀ k, k < ops.size → listed.getD k false = true := by
      intro k hk
      have hkl : k < listed.size := by omega
      have h0 : listed.toList.count false = 0 := by omega
      rw [List.count_eq_zero] at h0
      cases hb : listed[k]
      · exact absurd (by rw [← hb]; simp) h0
      · simp [hkl, hb]
    refine ⟨?_, hQ _ B t a1 w1 g1 hall hM hR⟩
    cases hr : Region.ready .any ops listed with
    | nil => rfl
    | cons k l =>
      have hk : k ∈ Region.ready .any ops listed := by rw [hr]; simp
      rw [mem_ready] at hk
      obtain ⟨h0, o, ho, _⟩ := hk
      have hk := (Array.getElem?_eq_some_iff.1 ho).1
      have := hall k hk
      have hkl : k < listed.size := by omega
      simp [hkl] at h0 this
      rw [h0] at this
      cases this
  | succ fuel ih =>
    intro listed B t g1 w1 a1 hsz hc hM hR
    refine ⟨fun hr => hQ _ B t a1 w1 g1 (ready_all listed hsz hr) hM hR, fun i hi => ?_⟩
    rw [mem_ready] at hi
    obtain ⟨h0, o, ho, hr⟩ := hi
    have hil := (Array.getElem?_eq_some_iff.1 ho).1
    have hlf : listed[i]? = some false := by
      have hkl : i < listed.size := by omega
      simp [hkl] at h0 ⊢
      exact h0
    obtain ⟨x, hx, hox⟩ := hget i o (by simpa using ho)
    obtain ⟨B', t', hst, hM'⟩ := hJ _ B t i x o hM (by rw [Array.getD_eq_getD_getElem?, hlf]; simp) hx ho (fun e he hb => hr e (by simpa using he) hb)
    obtain ⟨b, hw, hst⟩ := hst
    refine oper_sound hcall hR.sim hR.frame hox hw hst ho (fun a2 w2 g2 hp2 => ?_)
    refine ih _ B' t' g2 w2 a2 (by simp [hsz]) ?_ ?_ (hR.trans hp2)
    · rw [Array.toList_setIfInBounds]
      have := count_set listed.toList i (by simpa using hlf)
      omega
    · have : (fun k => (listed.setIfInBounds i true).getD k false = true) = fun k => listed.getD k false = true ∨ k = i := by
        funext k
        by_cases e : k = i
        · subst e
          have hkl : k < listed.size := by omega
          simp [hkl]
        · rw [getD_set_ne false (Ne.symm e)]
          simp [e]
      rw [this]
      exact hM'

theorem draw_inv {r : Option Nat} {m : Nat} (hcall : CallSound P fm call) (hmx : P.follows .mixedOrders = true) (hok : okOpers P fm nt ops aos ops.toList = true)
    (hback : ∀ (k : Nat) (o : Oper), ops[k]? = some o → ∀ e ∈ o.after, Region.binds .any e = true → e.on < k)
    (J : (Nat → Prop) → Frame → ASt → Prop)
    (hJ : ∀ (X : Nat → Prop) (B : Frame) (t : ASt) (i : Nat) (x : AOper) (o : Oper), J X B t → ¬ X i → aos[i]? = some x → ops[i]? = some o → bindsDone o X →
      ∃ B' t', OperStep call x B t B' t' ∧ J (fun k => X k ∨ k = i) B' t')
    {id : Nat} (hS : Sim fm s g w) (hF : FrameRep fm g s.n nt A a.tmps) (h0 : J (fun _ => False) A s) {Q : Exit → Act → World → Prop}
    (hQ : ∀ X B t a' w' g', (∀ k, k < ops.size → X k) → J X B t → RPost fm nt g w s t B a a' g' w' → Q .normal a' w') : (Code.region id ops true).wpIn (FW r) m P Q a w := by
  refine wpIn_region_any hmx ?_
  refine any_inv (g := g) (w := { w with drawn := w.drawn + 1 }) (s := s) (a := a) hcall hok hback J hJ (fun X B t a' w' g' hX hJ hp => ?_) ops.size _ A s g _ a (by simp) ?_ ?_ ?_
  · exact hQ X B t a' w' g' hX hJ ⟨hp.sim, hp.le, hp.n, ⟨hp.kept.blk, hp.kept.os, hp.kept.out, hp.kept.mst⟩, hp.frame, hp.defers⟩
  · simp
  · have : (fun k => (Array.replicate ops.size false).getD k false = true) = fun _ => False := by
      funext k
      simp only [Array.getD_eq_getD_getElem?, Array.getElem?_replicate]
      split <;> simp
    rw [this]
    exact h0
  · exact ⟨hS.drew _, le.refl _ _, Nat.le_refl _, Kept.refl _ _, hF, rfl⟩

end
end Go.Proofs.YtdhgdpokdhjanaaGreat.Abs
/- (*strings.Builder).WriteString and String: what they say of the memory, exactly; and that the abstract builder is served by it. -/
namespace Go.Proofs.YtdhgdpokdhjanaaGreat.Abs
open Go Go.RowKit

def ptrTo (b : Nat) : Value := .pointer (some ⟨b, 0, none⟩)

/-- What WriteString does. -/
def WriteSaid (P : Program) (f T u8 : Nat) : Prop := ∀ (b : Nat) (p v : Value) (x : List UInt8) (s : ByteArray) (w : World), w.heap[b]? = some (.cells #[p, v] T (0, 0)) → (p = .pointer none ∨ p = ptrTo b) →
    w.ownsRowF 0 u8 1 v x.length (Lib.byteCells x) → v.ownBlock ≠ some b → x.length + s.size ≤ 140737488355328 →
    Calls P f #[ptrTo b, .string s] w fun e w' => e = .returned (.tuple #[.int .i64 s.size, .nilIface]) ∧ ∃ v', w'.heap[b]? = some (.cells #[ptrTo b, v'] T (0, 0)) ∧
      w'.ownsRowF 0 u8 1 v' (x.length + s.size) (Lib.byteCells x ++ Lib.strCells s) ∧ v'.ownBlock ≠ some b ∧ (v'.ownBlock = v.ownBlock ∨ ∀ k, v'.ownBlock = some k → w.heap.size ≤ k) ∧
      (∀ k, k < w.heap.size → k ≠ b → some k ≠ v.ownBlock → w'.heap[k]? = w.heap[k]?) ∧ w'.os = w.os ∧ w'.output = w.output ∧ w.heap.size ≤ w'.heap.size

/-- What String does, of a builder that holds a byte. -/
def StringSaid (P : Program) (f T u8 : Nat) : Prop := ∀ (b : Nat) (p v : Value) (x : List UInt8) (w : World), w.heap[b]? = some (.cells #[p, v] T (0, 0)) → x ≠ [] →
    w.ownsRowF 0 u8 1 v x.length (Lib.byteCells x) → v.ownBlock ≠ some b →
    Calls P f #[ptrTo b] w fun e w' => e = .returned (.string ⟨x.toArray⟩) ∧ w'.ownsRowF 0 u8 1 v x.length (Lib.byteCells x) ∧
      (∀ k, some k ≠ v.ownBlock → w'.heap[k]? = w.heap[k]?) ∧ w'.os = w.os ∧ w'.output = w.output ∧ w'.heap.size = w.heap.size

def extWrite : List AVal → ASt → Option (AVal × ASt)
  | [.ref r 0, .str l], s => match s.get r with
    | some (.bld x) => if x.length + l.length ≤ limit then some (.tup [.int .i64 l.length, .nili], s.set r (.bld (x ++ l))) else none
    | _ => none
  | _, _ => none
def extString : List AVal → ASt → Option (AVal × ASt)
  | [.ref r 0], s => match s.get r with
    | some (.bld x) => if x.isEmpty then none else some (.str x, s)
    | _ => none
  | _, _ => none

section
variable {P : Program} {fm : Nat → Nat} {g : Gh} {s : ASt} {w w' : World}

theorem bld_row {r b : Nat} {l : List UInt8} (h : ObjRep fm g w r b (.bld l)) (hne : ∀ k, g.own k = .buf r → k ≠ b) : ∃ p v, w.heap[b]? = some (.cells #[p, v] (fm 1000000) (0, 0)) ∧ (p = .pointer none ∨ p = ptrTo b) ∧
    w.ownsRowF 0 (fm 1000001) 1 v l.length (Lib.byteCells l) ∧ v.ownBlock ≠ some b ∧ (∀ k, v.ownBlock = some k → g.own k = .buf r ∧ g.st k = [] ∧ ∃ c e fr, w.heap[k]? = some (.cells c e fr)) := by
  obtain ⟨p, v, h1, h2, h3⟩ := h
  refine ⟨p, v, h1, h2, ?_, ?_, ?_⟩
  · refine ⟨by simp [Lib.byteCells], ?_⟩
    rcases h3 with ⟨rfl, rfl⟩ | ⟨b2, cap, cur, fz, rfl, _, _, q3, q4, q5, q6, q7, q8⟩
    · exact .inl ⟨rfl, rfl⟩
    · exact .inr ⟨b2, cap, cur, fz, rfl, Nat.zero_le _, q3, by simpa using q4, q5, q6, by simpa using q7, by simpa [Lib.byteCells] using q8⟩
  · rcases h3 with ⟨rfl, rfl⟩ | ⟨b2, cap, cur, fz, rfl, q2, _⟩
    · simp [Value.ownBlock]
    · simp only [Value.ownBlock, ne_eq, Option.some.injEq]
      exact hne b2 q2
  · intro k hk
    rcases h3 with ⟨rfl, rfl⟩ | ⟨b2, cap, cur, fz, rfl, q2, q0, q3, _⟩
    · simp [Value.ownBlock] at hk
    · simp only [Value.ownBlock, Option.some.injEq] at hk
      subst hk
      exact ⟨q2, q0, _, _, _, q3⟩

theorem row_bld {r b : Nat} {l : List UInt8} {p v : Value} (h1 : w.heap[b]? = some (.cells #[p, v] (fm 1000000) (0, 0))) (h2 : p = .pointer none ∨ p = ptrTo b) (h3 : w.ownsRowF 0 (fm 1000001) 1 v l.length (Lib.byteCells l))
    (hb : ∀ k, v.ownBlock = some k → g.own k = .buf r ∧ g.st k = []) : ObjRep fm g w r b (.bld l) := by
  refine ⟨p, v, h1, h2, ?_⟩
  rcases h3.2 with ⟨rfl, h0⟩ | ⟨b2, cap, cur, fz, rfl, _, q3, q4, q5, q6, q7, q8⟩
  · exact .inl ⟨rfl, List.length_eq_zero_iff.1 h0⟩
  · exact .inr ⟨b2, cap, cur, fz, rfl, (hb b2 rfl).1, (hb b2 rfl).2, q3, by simpa using q4, q5, q6, by simpa using q7, by simpa [Lib.byteCells] using q8⟩

theorem setL_id : ∀ {os : List AObj} {n r : Nat} {o : AObj}, getL os n r = some o → setL os n r o = os
  | [], _, _, _, h => by simp [getL] at h
  | _ :: _, 0, _, _, h => by simp [getL] at h
  | x :: os, n + 1, r, o, h => by
    simp only [getL, setL] at h ⊢
    split at h
    · rename_i e
      cases h
      rw [if_pos e]
    · rename_i e
      rw [if_neg e, setL_id h]
theorem set_same {r : Nat} {o : AObj} (h : s.get r = some o) : s.set r o = s := by
  simp only [ASt.set, setL_id h]

/-- A step that touches a builder and its row alone. -/
theorem Sim.bld {r b : Nat} {x y : List UInt8} {v : Value} {g' : Gh} (hS : Sim fm s g w) (hr : s.get r = some (.bld x)) (hb : g.obj r = some b) (hle : g' = { g with own := g'.own })
    (hown : ∀ k, k < w.heap.size → g'.own k = g.own k) (hfree : ∀ k, w.heap.size ≤ k → g'.own k = .free ∨ (g'.own k = .buf r ∧ k < w'.heap.size))
    (hv : ∀ k, v.ownBlock = some k → g.own k = .buf r ∧ g.st k = [] ∧ ∃ c e fr, w.heap[k]? = some (.cells c e fr))
    (hobj : ObjRep fm g' w' r b (.bld y)) (hfix : ∀ k, k < w.heap.size → k ≠ b → some k ≠ v.ownBlock → w'.heap[k]? = w.heap[k]?) (hsz : w.heap.size ≤ w'.heap.size) :
    Sim fm (s.set r (.bld y)) g' w' := by
  obtain ⟨o1, o2, o3, o4, o5⟩ := hS.objn r b hb
  have ho : g'.obj = g.obj := by rw [hle]
  have hst : g'.st = g.st := by rw [hle]
  have hms : g'.mst = g.mst := by rw [hle]
  have hvc : g'.vec = g.vec := by rw [hle]
  have hsz' : g'.sz = g.sz := by rw [hle]
  have hleq : ∀ n, le n g g' := fun n => ⟨fun r _ b e => by rw [ho]; exact e, fun b => by rw [hst]; exact List.prefix_refl _, fun b x e => by rw [hms]; exact e, fun r _ c x k e => ⟨x, k, by rw [hvc]; exact e, Nat.le_refl _, fun _ => rfl⟩⟩
  have hlt : ∀ k t, g.own k = t → t ≠ .free → k < w.heap.size := fun k t h1 h2 => by
    rcases Nat.lt_or_ge k w.heap.size with h | h
    · exact h
    · exact absurd ((hS.fresh k h).1.symm.trans h1).symm h2
  have keep : ∀ k t, g.own k = t → t ≠ .free → t ≠ .obj r → t ≠ .buf r → g'.own k = t ∧ w'.heap[k]? = w.heap[k]? := by
    intro k t h1 h2 h3 h4
    have hk := hlt k t h1 h2
    refine ⟨by rw [hown k hk, h1], hfix k hk (fun e => ?_) (fun e => ?_)⟩
    · subst e
      rw [o2] at h1
      exact h3 h1.symm
    · rw [(hv k e.symm).1] at h1
      exact h4 h1.symm
  refine ⟨by simp [ASt.set, setL_length, hS.size], ?_, ?_, ?_, ?_, ?_⟩
  · intro q o hq b' hb'
    rw [ho] at hb'
    by_cases e : q = r
    · subst e
      rw [ASt.get_set_same hr] at hq
      cases hq
      rw [hb] at hb'
      cases hb'
      exact hobj
    · rw [ASt.get_set_other e] at hq
      obtain ⟨_, p2, p3, _⟩ := hS.objn q b' hb'
      refine (hS.objs q o hq b' hb').mono (hleq _) (fun c i hc => ?_) (fun c => by rw [hvc]) ?_ (fun c hc => ?_)
      · obtain ⟨h1, _⟩ := keep c _ hc (by simp) (by simp) (by simp)
        exact ⟨by rw [h1, hc], by rw [hst], by rw [hsz']⟩
      · exact (keep b' _ p2 (by simp) (by simp [e]) (by simp)).2
      · obtain ⟨k1, k2⟩ := keep c _ hc (by simp) (by simp) (by simp [e])
        exact ⟨k1, by rw [hst], k2⟩
  · intro q b' hb'
    rw [ho] at hb'
    obtain ⟨p1, p2, p3, p4, p5⟩ := hS.objn q b' hb'
    exact ⟨by simpa [ASt.set] using p1, by rw [hown b' p3, p2], by omega, by rw [hst]; exact p4, by rw [hms]; exact p5⟩
  · intro k hk
    rw [hst] at hk ⊢
    rw [hsz']
    have hheld : (g'.own k).held = true → (g.own k).held = true ∧ k < w.heap.size := fun h => by
      rcases Nat.lt_or_ge k w.heap.size with h1 | h1
      · rw [hown k h1] at h; exact ⟨h, h1⟩
      · rcases hfree k h1 with h2 | ⟨h2, _⟩ <;> rw [h2] at h <;> simp [Tag.held] at h
    obtain ⟨c, elem, fr, h1, h2, h3, h4⟩ := hS.st k (hk.imp id (fun h => (hheld h).1))
    have hklt : k < w.heap.size := (Array.getElem?_eq_some_iff.1 h1).1
    have hkb : k ≠ b := fun e => by
      subst e
      rcases hk with hk | hk
      · exact hk o4
      · have := (hheld hk).1
        rw [o2] at this
        simp [Tag.held] at this
    have hown' := hown k hklt
    rw [hown'] at hk ⊢
    by_cases hkv : some k = v.ownBlock
    · obtain ⟨hbuf, hst0, _⟩ := hv k hkv.symm
      rcases hk with hk | hk
      · exact absurd hst0 hk
      · rw [hbuf] at hk; simp [Tag.held] at hk
    · exact ⟨c, elem, fr, by rw [hfix k hklt hkb hkv]; exact h1, h2, h3, h4⟩
  · intro k ks vs hk
    rw [hms] at hk
    obtain ⟨es, clock, h1, h2⟩ := hS.mst k ks vs hk
    have hklt : k < w.heap.size := (Array.getElem?_eq_some_iff.1 h1).1
    have hkb : k ≠ b := fun e => by subst e; rw [o5] at hk; cases hk
    have hkv : some k ≠ v.ownBlock := fun e => by
      obtain ⟨_, _, c, e, fr, h3⟩ := hv k e.symm
      rw [h1] at h3
      cases h3
    exact ⟨es, clock, by rw [hfix k hklt hkb hkv]; exact h1, h2⟩
  · intro k hk
    obtain ⟨e1, e2, e3⟩ := hS.fresh k (by omega)
    refine ⟨?_, by rw [hst]; exact e2, by rw [hms]; exact e3⟩
    rcases hfree k (by omega) with h | ⟨_, h⟩
    · exact h
    · omega

theorem kept_bld {r b : Nat} {v : Value} {g' : Gh} (hS : Sim fm s g w) (hb : g.obj r = some b) (hle : g' = { g with own := g'.own })
    (hown : ∀ k, k < w.heap.size → g'.own k = g.own k) (hv : ∀ k, v.ownBlock = some k → g.own k = .buf r ∧ g.st k = [] ∧ ∃ c e fr, w.heap[k]? = some (.cells c e fr))
    (hfix : ∀ k, k < w.heap.size → k ≠ b → some k ≠ v.ownBlock → w'.heap[k]? = w.heap[k]?) (hos : w'.os = w.os) (hout : w'.output = w.output) : Kept g g' w w' := by
  obtain ⟨o1, o2, o3, o4, o5⟩ := hS.objn r b hb
  have hlt : ∀ k x, g.own k = .other x → k < w.heap.size := fun k x h1 => by
    rcases Nat.lt_or_ge k w.heap.size with h | h
    · exact h
    · have := (hS.fresh k h).1
      rw [h1] at this
      cases this
  refine ⟨fun k x hk => ?_, hos, hout, fun k x hk => by rw [hle]⟩
  have h := hlt k x hk
  refine ⟨⟨hown k h, by rw [hle], by rw [hle]⟩, hfix k h (fun e => ?_) (fun e => ?_)⟩
  · subst e; rw [o2] at hk; cases hk
  · rw [(hv k e.symm).1] at hk; cases hk

theorem write_sound {f : Nat} (hW : WriteSaid P f (fm 1000000) (fm 1000001)) {args : List AVal} {v : AVal} {s' : ASt} (h : extWrite args s = some (v, s')) (hS : Sim fm s g w) {vs : Array Value} (hR : RepL fm g s.n args vs.toList) (m : Nat) :
    CallsIn (FW none) m P f vs w (CallPost fm g w s s' v) := by
  unfold extWrite at h
  split at h
  · rename_i r l
    split at h
    · rename_i x hr
      split at h
      · rename_i hlim
        cases h
        generalize hvs : vs.toList = vl at hR
        cases hR with
        | cons _ v1 _ _ h1 ht =>
        cases ht with
        | cons _ v2 _ _ h2 ht =>
        cases ht with
        | nil =>
        obtain rfl : vs = #[v1, v2] := Array.ext' hvs
        cases h1 with
        | ref _ _ b hlt hb =>
        cases h2
        have hO := hS.objs r _ hr b hb
        obtain ⟨o1, o2, o3, o4, o5⟩ := hS.objn r b hb
        obtain ⟨p, rv, q1, q2, q3, q4, q5⟩ := bld_row hO (fun k hk e => by subst e; rw [o2] at hk; cases hk)
        have hsz : (⟨l.toArray⟩ : ByteArray).size = l.length := by simp [ByteArray.size]
        have hc := hW b p rv x ⟨l.toArray⟩ w q1 q2 q3 q4 (by rw [hsz]; unfold limit at hlim; omega)
        refine CallsIn.mono (F := FW none) (show CallsIn (FW none) m P f _ w _ from callsIn_wide.2 hc) ?_
        rintro e w' ⟨rfl, v', c1, c2, c3, c4, c5, c6, c7, c8⟩
        rw [hsz] at c2
        have hcells : Lib.byteCells x ++ Lib.strCells ⟨l.toArray⟩ = Lib.byteCells (x ++ l) := by
          simp [Lib.byteCells, Lib.strCells]
        rw [hcells, ← List.length_append] at c2
        let g' : Gh := { g with own := fun k => if w.heap.size ≤ k ∧ v'.ownBlock = some k then .buf r else g.own k }
        have hown : ∀ k, k < w.heap.size → g'.own k = g.own k := fun k hk => by
          show (if _ then _ else _) = _
          rw [if_neg (by omega)]
        have hnew : ∀ k, v'.ownBlock = some k → g'.own k = .buf r ∧ g'.st k = [] := fun k hk => by
          rcases c4 with c4 | c4
          · obtain ⟨d1, d2, d3⟩ := q5 k (by rw [← c4]; exact hk)
            refine ⟨?_, d2⟩
            show (if _ then _ else _) = _
            split
            · rfl
            · exact d1
          · have hge := c4 k hk
            refine ⟨?_, (hS.fresh k hge).2.1⟩
            show (if _ then _ else _) = _
            rw [if_pos ⟨hge, hk⟩]
        have hfree : ∀ k, w.heap.size ≤ k → g'.own k = .free ∨ (g'.own k = .buf r ∧ k < w'.heap.size) := fun k hk => by
          by_cases e : v'.ownBlock = some k
          · exact .inr ⟨(hnew k e).1, (c2.lt k e).2⟩
          · left
            show (if _ then _ else _) = _
            rw [if_neg (by simp [e])]
            exact (hS.fresh k hk).1
        have hS' : Sim fm (s.set r (.bld (x ++ l))) g' w' := hS.bld hr hb rfl hown hfree q5 (row_bld c1 (.inr rfl) c2 hnew) c5 c8
        refine ⟨_, g', rfl, hS', ⟨fun _ _ _ e => e, fun _ => List.prefix_refl _, fun _ _ e => e, fun _ _ _ h k e => ⟨h, k, e, Nat.le_refl _, fun _ => rfl⟩⟩, Nat.le_refl _, kept_bld hS hb rfl hown q5 c5 c6 c7, Rep.slot ?_⟩
        rw [hsz]
        exact .tup _ _ (.cons _ _ _ _ (.int _ _) (.cons _ _ _ _ .nili .nil))
      · cases h
    · cases h
  · cases h

theorem string_sound {f : Nat} (hW : StringSaid P f (fm 1000000) (fm 1000001)) {args : List AVal} {v : AVal} {s' : ASt} (h : extString args s = some (v, s')) (hS : Sim fm s g w) {vs : Array Value} (hR : RepL fm g s.n args vs.toList) (m : Nat) :
    CallsIn (FW none) m P f vs w (CallPost fm g w s s' v) := by
  unfold extString at h
  split at h
  · rename_i r
    split at h
    · rename_i x hr
      split at h
      · cases h
      · rename_i hne
        cases h
        generalize hvs : vs.toList = vl at hR
        cases hR with
        | cons _ v1 _ _ h1 ht =>
        cases ht with
        | nil =>
        obtain rfl : vs = #[v1] := Array.ext' hvs
        cases h1 with
        | ref _ _ b hlt hb =>
        have hO := hS.objs r _ hr b hb
        obtain ⟨o1, o2, o3, o4, o5⟩ := hS.objn r b hb
        obtain ⟨p, rv, q1, q2, q3, q4, q5⟩ := bld_row hO (fun k hk e => by subst e; rw [o2] at hk; cases hk)
        have hc := hW b p rv x w q1 (by intro e; subst e; simp at hne) q3 q4
        refine CallsIn.mono (F := FW none) (show CallsIn (FW none) m P f _ w _ from callsIn_wide.2 hc) ?_
        rintro e w' ⟨rfl, c2, c5, c6, c7, c8⟩
        have hS' : Sim fm (s.set r (.bld x)) g w' := hS.bld (g' := g) (v := rv) hr hb rfl (fun _ _ => rfl) (fun k hk => .inl (hS.fresh k hk).1) q5
          (row_bld (by rw [c5 b (fun e => q4 e.symm)]; exact q1) q2 c2 (fun k hk => ⟨(q5 k hk).1, (q5 k hk).2.1⟩)) (fun k _ _ hk => c5 k hk) (by omega)
        have hset : s.set r (.bld x) = s := set_same hr
        rw [hset] at hS'
        exact ⟨_, g, rfl, hS', le.refl _ _, Nat.le_refl _, kept_bld (v := rv) hS hb rfl (fun _ _ => rfl) q5 (fun k _ _ hk => c5 k hk) c6 c7, Rep.slot (.str _)⟩
    · cases h
  · cases h

end
end Go.Proofs.YtdhgdpokdhjanaaGreat.Abs
/- (*strings.Builder).WriteString and String, over any program that bears their closure: what they say of the memory, exactly.
   Turned from the kit's proofs of the forms '_k': the frame is exact here. -/
namespace Go.Proofs.YtdhgdpokdhjanaaGreat.Abs
open Go Go.RowKit Go.Shelf

section
variable {P : Program} {ρ : Ren} {w : World}

theorem freeze_other {a : Addr} {n k : Nat} (h : a.block ≠ k) : (w.freeze a n).heap[k]? = w.heap[k]? := by
  unfold World.freeze
  split
  · rfl
  · simp [Array.getElem?_modify, h]
theorem freeze_rest (a : Addr) (n : Nat) : (w.freeze a n).os = w.os ∧ (w.freeze a n).output = w.output ∧ (w.freeze a n).heap.size = w.heap.size := by
  unfold World.freeze
  split
  · exact ⟨rfl, rfl, rfl⟩
  · exact ⟨rfl, rfl, by simp⟩

theorem run_append_mine (base : Nat) (t u ty e : TypeId) (i : TypeInfo) (ht : P.underlying t = some (.slice e)) (hu : P.underlying u = some .string) (hi : P.info? e = some i) (hz : i.zero = some (.int .u8 0))
    (hsize : i.size = 1) (hby : i.bytes = 1) (v : Value) (n : Nat) (xs : List Value) (hown : w.ownsRowF 0 e 1 v n xs) (s : ByteArray)
    (h63 : n + s.size ≤ maxLen) (hbytes : n + s.size ≤ 140737488355328) :
    ∃ v' w', (Builtin.append_ #[t, u] ty #[v, .string s]).run P w = .ok v' w' ∧ w'.ownsRowF 0 e 1 v' (n + s.size) (xs ++ Lib.strCells s) ∧ w.grownBy w' v.ownBlock ∧
      (v'.ownBlock = v.ownBlock ∨ ∀ k, v'.ownBlock = some k → w.heap.size ≤ k) := by
  rcases hown.2 with ⟨rfl, rfl⟩ | ⟨g, cap, cur, fz, rfl, hbg, hg, hfz, hnc, hcm, hcs, htake⟩
  · obtain ⟨v', w', h1, h2, h3, _⟩ := Lib.run_append_own_stringF (P := P) w w.heap.size t u ty e i ht hu hi hz hsize hby (.slice none 0 0) 0 xs ⟨hown.1, .inl ⟨rfl, rfl⟩⟩ s h63 hbytes (Nat.le_refl _)
    refine ⟨v', w', h1, ⟨h2.1, ?_⟩, h3, .inr (fun k hk => (h2.lt k hk).1)⟩
    rcases h2.2 with h | ⟨g, cap, cur, fz, q1, q2, q3⟩
    · exact .inl h
    · exact .inr ⟨g, cap, cur, fz, q1, Nat.zero_le _, q3⟩
  · have hsmall : n + s.size ≤ 9223372036854775807 := by simp only [maxLen] at h63; omega
    have hxl : xs.length = n := by simpa using hown.1
    have hlen : (xs ++ Lib.strCells s).length = (n + s.size) * 1 := by rw [List.length_append, hxl, Lib.strCells_length, Nat.mul_one]
    by_cases hroom : n + s.size ≤ cap
    · have hcs' : cur.size = cap := by simpa using hcs
      have hr := Lib.run_append_room_stringF (P := P) w t u ty e i ht hu hi hsize g n cap cur fz hg (by simpa using hfz) s hroom (by omega)
      refine ⟨_, _, hr, ⟨hlen, .inr ⟨g, cap, _, fz, rfl, hbg, setRow_heap w g cur _ e _ hg, by omega, hroom, hcm, ?_, ?_⟩⟩, ⟨rfl, rfl, rfl, by simp, fun k _ hk => setRow_other w g k _ (fun e => hk (by simp [Value.ownBlock, e]))⟩, .inl rfl⟩
      · simp only [List.size_toArray, List.length_append, List.length_take, List.length_drop, Array.length_toList, Lib.strCells_length]
        omega
      · have ht' : cur.toList.take n = xs := by simpa using htake
        rw [ht', ← hlen]
        exact List.take_left
    · have holds : ∀ j u, xs[j]? = some u → w.cell? ((⟨g, 0, none⟩ : Addr).add j) = some u := hown.cells (g := g) rfl
      have hr := Lib.run_append_grow_string (P := P) w t u ty e i (.int .u8 0) ht hu hi hz ⟨g, 0, none⟩ n cap xs (by rw [hsize]; simpa using hxl) holds s (by omega) (by omega) (by rw [hby]; exact growslice_fits (by omega) (by omega))
      have hge := grownCap_ge w (n + s.size) cap e
      have hcm2 : grownCap w (n + s.size) cap e ≤ maxLen := grownCap_le_maxLen w (n + s.size) cap e h63
      refine ⟨_, _, hr, ⟨hlen, .inr ⟨w.heap.size, _, _, (0, 0), rfl, Nat.zero_le _, heap_alloc_new w.drew _, Nat.zero_le _, hge, hcm2, ?_, ?_⟩⟩, ⟨rfl, rfl, rfl, by simp, fun k hk _ => heap_alloc_old w.drew _ hk⟩, .inr (fun k hk => by simp [Value.ownBlock] at hk; omega)⟩
      · have hz1 : (Value.int IntKind.u8 0).cells.size = 1 := rfl
        simp only [Array.size_append, List.size_toArray, size_zeroCells, hz1, hxl, Lib.strCells_length]
        omega
      · simp only [Array.toList_append, List.append_assoc]
        rw [← List.append_assoc, ← hlen]
        exact List.take_left

theorem wpList_append_mine {ops : Array Oper} {rest : List Oper} {o : Oper} {a : Act} {Q : Exit → Act → World → Prop} (hgd : o.guard = none) (sl x : Operand) (t u : TypeId)
    (ho : o.op = .call { callee := .builtin .append, args := #[sl, x], argTypes := #[t, u] })
    (e : TypeId) (i : TypeInfo) (ht : P.underlying t = some (.slice e)) (hu : P.underlying u = some .string) (hi : P.info? e = some i) (hz : i.zero = some (.int .u8 0))
    (hsize : i.size = 1) (hby : i.bytes = 1)
    (v : Value) (n : Nat) (xs : List Value) (hs : a.eval sl = v) (hown : w.ownsRowF 0 e 1 v n xs) (s : ByteArray) (hx : a.eval x = .string s)
    (h63 : n + s.size ≤ maxLen) (hbytes : n + s.size ≤ 140737488355328)
    (h : ∀ v' w', w'.ownsRowF 0 e 1 v' (n + s.size) (xs ++ Lib.strCells s) → w.grownBy w' v.ownBlock → (v'.ownBlock = v.ownBlock ∨ ∀ k, v'.ownBlock = some k → w.heap.size ≤ k) → wpList P ops Q rest (a.put o.dst v') w') : wpList P ops Q (o :: rest) a w := by
  refine wpList_plain hgd fun K hK => ?_
  obtain ⟨v', w', hr, h2, h3, h4⟩ := run_append_mine (P := P) (w := w) 0 t u o.type e i ht hu hi hz hsize hby v n xs hown s h63 hbytes
  unfold Oper.wp execOp
  simp only [ho, resolve, invoke, builtin, Sem.run_bind, Sem.run_pure, Result.andThen_ok, List.map_toArray, List.map_cons, List.map_nil, hs, hx, hr]
  exact hK _ _ (h v' w' h2 h3 h4)

theorem copyCheck_said (L : Lays.n240 P ρ) (X : Builder.X72 P ρ) (b : Nat) (p v : Value) (w : World) (hbk : w.heap[b]? = some (.cells #[p, v] (ρ.t 72) (0, 0))) (hp : p = .pointer none ∨ p = ptrTo b) :
    Calls P (ρ.f 240) #[.pointer (some ⟨b, 0, none⟩)] w fun e w' => e = .returned (.tuple #[]) ∧ w'.heap[b]? = some (.cells #[ptrTo b, v] (ρ.t 72) (0, 0)) ∧ (∀ k, k ≠ b → w'.heap[k]? = w.heap[k]?) ∧ w'.os = w.os ∧ w'.output = w.output ∧ w'.heap.size = w.heap.size := by
  rcases hp with rfl | rfl
  · refine (Any.Builder_copyCheck_fresh L X b w (by rw [Lib.cell_of_heap hbk]; rfl) (by simp [World.shape?, hbk]) (Lib.frozen_of_heap hbk 0)).mono ?_
    rintro e w' ⟨rfl, rfl⟩
    refine ⟨rfl, by simp [World.setCell, Array.getElem?_modify, hbk, ptrTo], fun k hk => Below.heap_setCell _ _ _ _ (fun e => hk e), rfl, rfl, by simp [World.setCell]⟩
  · refine (Any.Builder_copyCheck_used L X b w (by rw [Lib.cell_of_heap hbk]; rfl)).mono ?_
    rintro e w' ⟨rfl, rfl⟩
    exact ⟨rfl, hbk, fun _ _ => rfl, rfl, rfl, rfl⟩

set_option maxHeartbeats 2000000 in
set_option maxRecDepth 100000 in
theorem write_said (L : Lays.n166 P ρ) (X : Builder.Extra P ρ) : WriteSaid P (ρ.f 166) (ρ.t 72) (ρ.t 5) := by
  intro b p v x s w hbk hp hown hne hlen
  unfold ptrTo
  obtain ⟨i0, hi, hz0, hz1, hz2⟩ := info_parts X.infoByte
  have mixed := L.mixed
  have t72 := L.t72; have a72 := L.a72; have z72 := L.z72; have v72 := L.v72; have u72 := run_underlying L.t72
  have t70 := L.t70; have a70 := L.a70; have z70 := L.z70; have v70 := L.v70; have u70 := run_underlying L.t70
  have t37 := L.t37; have a37 := L.a37; have z37 := L.z37; have v37 := L.v37; have u37 := run_underlying L.t37
  have t3 := L.t3; have a3 := L.a3; have z3 := L.z3; have v3 := L.v3; have u3 := run_underlying L.t3
  have t9 := L.t9; have a9 := L.a9; have z9 := L.z9; have v9 := L.v9; have u9 := run_underlying L.t9
  have t4 := L.t4; have a4 := L.a4; have z4 := L.z4; have v4 := L.v4; have u4 := run_underlying L.t4
  have t164 := L.t164; have a164 := L.a164; have z164 := L.z164; have v164 := L.v164; have u164 := run_underlying L.t164
  have t5 := X.t5; have a5 := X.a5; have z5 := X.z5; have v5 := X.v5; have u5 := run_underlying X.t5
  have e240 : ∀ args w, (callFunc (ρ.f 240) args).run P w = .ok (.enter (ρ.f 240) args) w := enters_of L.f240 (by kernel_rfl) rfl
  go_enter L.f166, Body.n166_ntmps ρ
  go_wp2_with (go_at_fn (ρ.f 240); refine (copyCheck_said { L with } X.toX72 b p v _ hbk hp).mono ?_)
  rintro e w1 ⟨rfl, hbk1, hk1, ho1, hu1, hs1⟩
  have hlt0 : b < w.heap.size := (Array.getElem?_eq_some_iff.1 hbk).1
  have hown1 : w1.ownsRowF 0 (ρ.t 5) 1 v x.length (Lib.byteCells x) := by
    refine ⟨hown.1, ?_⟩
    rcases hown.2 with h | ⟨g, cap, cur, fz, rfl, q1, q2, q3⟩
    · exact .inl h
    · exact .inr ⟨g, cap, cur, fz, rfl, q1, by rw [hk1 g (fun e => hne (by simp [Value.ownBlock, e]))]; exact q2, q3⟩
  have c0 : w1.cell? ⟨b, 0, none⟩ = some (.pointer (some ⟨b, 0, none⟩)) := by rw [Lib.cell_of_heap hbk1]; rfl
  have c1 : w1.cell? ⟨b, 1, none⟩ = some v := by rw [Lib.cell_of_heap hbk1]; rfl
  go_wp2_with (at_builtin; refine wpList_append_mine rfl _ _ (ρ.t 37) (ρ.t 9) rfl (ρ.t 5) i0 L.t37 L.t9 hi hz0 hz1 hz2 _ _ _ rfl hown1 s rfl ?c3 ?c4 ?_)
  case c3 => unfold maxLen; omega
  case c4 => omega
  intro v' w2 hown' hgrow hsame
  have hlt : b < w1.heap.size := by omega
  have hb2 : w2.heap[b]? = some (.cells #[.pointer (some ⟨b, 0, none⟩), v] (ρ.t 72) (0, 0)) := by
    rw [hgrow.block b hlt (fun e => hne e.symm)]
    exact hbk1
  have d0 : w2.cell? ⟨b, 0, none⟩ = some (.pointer (some ⟨b, 0, none⟩)) := by rw [Lib.cell_of_heap hb2]; rfl
  have d1 : w2.cell? ⟨b, 1, none⟩ = some v := by rw [Lib.cell_of_heap hb2]; rfl
  have f1 : w2.frozen? ⟨b, 1, none⟩ = false := Lib.frozen_of_heap hb2 1
  have hne' : v'.ownBlock ≠ some b := Lib.ownBlock_neF hown' hb2 X.neB5
  obtain ⟨ao, n', cap, rfl⟩ : ∃ ao n' cap, v' = .slice ao n' cap := by
    rcases hown'.2 with ⟨hv, _⟩ | ⟨g, cap, cur, fz, hv, _⟩
    · exact ⟨_, _, _, hv⟩
    · exact ⟨_, _, _, hv⟩
  go_wp2
  go_ret2
  refine ⟨rfl, _, ?_, ?_, hne', ?_, ?_, ?_, ?_, ?_⟩
  · simp [World.setCell, Array.getElem?_modify, hb2]
  · exact hown'.kept (row := some b) ⟨rfl, rfl, rfl, by simp [World.setCell], fun k _ hk => Below.heap_setCell _ _ _ _ (fun e => hk (by simp [e]))⟩ (Or.inr hne')
  · exact hsame
  · intro k hk hkb hkv
    rw [Below.heap_setCell _ _ _ _ (fun e => hkb e), hgrow.block k (by omega) hkv, hk1 k hkb]
  · show w2.os = _
    rw [hgrow.os, ho1]
  · show w2.output = _
    rw [hgrow.output, hu1]
  · have := hgrow.size
    simp [World.setCell]
    omega

set_option maxHeartbeats 1000000 in
set_option maxRecDepth 100000 in
theorem string_said (L : Lays.n169 P ρ) (X : Builder.Extra P ρ) : StringSaid P (ρ.f 169) (ρ.t 72) (ρ.t 5) := by
  intro b p v l w hbk h0 hown hne
  unfold ptrTo
  have hl0 : l.length ≠ 0 := by simpa using h0
  obtain ⟨g, cap, cur, fz, rfl, hbg, hg, hfz, hnc, hcm, hcs, htake⟩ : ∃ g cap cur fz, v = .slice (some ⟨g, 0, none⟩) l.length cap ∧ 0 ≤ g ∧ w.heap[g]? = some (.cells cur (ρ.t 5) fz) ∧ fz.2 ≤ l.length * 1 ∧ l.length ≤ cap ∧ cap ≤ maxLen ∧ cur.size = cap * 1 ∧ cur.toList.take (l.length * 1) = Lib.byteCells l := by
    rcases hown.2 with ⟨_, hz⟩ | ⟨g, cap, cur, fz, hv, r⟩
    · exact absurd hz hl0
    · exact ⟨g, cap, cur, fz, hv, r⟩
  have c1 : w.drew.cell? ⟨b, 1, none⟩ = some (.slice (some ⟨g, 0, none⟩) l.length cap) := by
    have : w.drew.heap[b]? = some (.cells #[p, .slice (some ⟨g, 0, none⟩) l.length cap] (ρ.t 72) (0, 0)) := hbk
    rw [Lib.cell_of_heap this]; rfl
  have hSD : (Builtin.unsafeSliceData_ #[(ρ.t 37)] (ρ.t 127) #[.slice (some ⟨g, 0, none⟩) l.length cap]).run P w.drew = .ok (.pointer (some ⟨g, 0, none⟩)) w.drew :=
    Lib.run_unsafeSliceData_row _ _ _ _ _ _ (by omega)
  have hUS : (Builtin.unsafeString_ #[(ρ.t 127), (ρ.t 3)] (ρ.t 9) #[.pointer (some ⟨g, 0, none⟩), .int .i64 l.length]).run P w.drew = .ok (.string ⟨l.toArray⟩) (w.drew.freeze ⟨g, 0, none⟩ l.length) := by
    refine Lib.run_unsafeString_row w.drew (ρ.t 127) (ρ.t 3) (ρ.t 9) (ρ.t 5) L.t127 X.cellsByte g cur.size (by have hg' : w.drew.heap[g]? = some (.cells cur (ρ.t 5) fz) := hg; simp [World.shape?, hg']) l h0 (by omega) (by unfold maxLen at hcm; omega) ?_
    intro j x hx
    have := hown.cells (g := g) rfl j (.int .u8 x.toNat) (by simp [Lib.byteCells, hx])
    exact this
  have hkeep : (w.drew.freeze ⟨g, 0, none⟩ l.length).ownsRowF 0 (ρ.t 5) 1 (.slice (some ⟨g, 0, none⟩) l.length cap) l.length (Lib.byteCells l) := by
    have hA : Lib.BuilderAtF (ρ.t 72) (ρ.t 5) 0 b p (Lib.byteCells l) w.drew := ⟨Nat.zero_le _, _, hbk, by rw [Lib.byteCells_length]; exact hown, hne⟩
    have hF := hA.froze (g := g) (cap := cap) (by rw [Lib.byteCells_length]; exact c1)
    rw [Lib.byteCells_length] at hF
    obtain ⟨_, v2, hb2, hown2, _⟩ := hF
    have hbb : (w.drew.freeze ⟨g, 0, none⟩ l.length).heap[b]? = w.heap[b]? := by
      have hgb : g ≠ b := fun e => hne (by simp [Value.ownBlock, e])
      exact freeze_other (w := w.drew) hgb
    rw [hbb, hbk] at hb2
    cases hb2
    rw [Lib.byteCells_length] at hown2
    exact hown2
  have mixed := L.mixed
  have t72 := L.t72; have a72 := L.a72; have z72 := L.z72; have v72 := L.v72; have u72 := run_underlying L.t72
  have t70 := L.t70; have a70 := L.a70; have z70 := L.z70; have v70 := L.v70; have u70 := run_underlying L.t70
  have t37 := L.t37; have a37 := L.a37; have z37 := L.z37; have v37 := L.v37; have u37 := run_underlying L.t37
  have t127 := L.t127; have a127 := L.a127; have z127 := L.z127; have v127 := L.v127; have u127 := run_underlying L.t127
  have t3 := L.t3; have a3 := L.a3; have z3 := L.z3; have v3 := L.v3; have u3 := run_underlying L.t3
  have t9 := L.t9; have a9 := L.a9; have z9 := L.z9; have v9 := L.v9; have u9 := run_underlying L.t9
  have t5 := X.t5; have a5 := X.a5; have z5 := X.z5; have v5 := X.v5; have u5 := run_underlying X.t5
  go_enter L.f169, Body.n169_ntmps ρ
  go_wp2
  go_region_o
  all_goals
    go_wp2
    go_ret
    refine ⟨rfl, hkeep, fun k hk => ?_, ?_, ?_, ?_⟩
    · have hgb : g ≠ k := fun e => hk (by simp [Value.ownBlock, e])
      exact freeze_other (w := w.drew) hgb
    · exact (freeze_rest (w := w.drew) _ _).1
    · exact (freeze_rest (w := w.drew) _ _).2.1
    · exact (freeze_rest (w := w.drew) _ _).2.2

end
end Go.Proofs.YtdhgdpokdhjanaaGreat.Abs
/- A function of values alone, from the empty state; entries of a map in whatever order. -/
namespace Go.Proofs.YtdhgdpokdhjanaaGreat.Abs
open Go

section
variable {P : Program} {fm : Nat → Nat} {nt : Nat} {g g' g'' : Gh} {s s' s'' t : ASt} {A A' A'' B : Frame} {a a' a'' : Act} {w w' w'' : World} {call : CallFn}

theorem pure_ext {f : Nat} {args : List AVal} {v : AVal} (h0 : ∀ (g : Gh) (w : World) (vs : Array Value) (m : Nat), Sim fm ⟨0, []⟩ g w → RepL fm g 0 args vs.toList → CallsIn (FW none) m P f vs w (CallPost fm g w ⟨0, []⟩ ⟨0, []⟩ v))
    (hu : underL 0 args = true) (hS : Sim fm s g w) {vs : Array Value} (hR : RepL fm g s.n args vs.toList) (m : Nat) : CallsIn (FW none) m P f vs w (CallPost fm g w s s v) := by
  have hcs := h0 g.away w vs m hS.away ((hR.lower hu).mono (away_le 0) (Nat.le_refl _))
  refine hcs.mono ?_
  rintro e w1 ⟨cv, g1, rfl, q1, q2, q3, q4, q5⟩
  obtain ⟨p1, p2, p3, p4, p5, p6⟩ := back_sound hS q1 q2 q4
  exact ⟨cv, g.back g1, rfl, p1, p2, Nat.le_refl _, p3, q5.mono p5 (Nat.zero_le _) p6⟩

def ksOf (es : List (Int × AVal)) : List AVal := es.map fun p => .int .i64 p.1
def vsOf (es : List (Int × AVal)) : List AVal := es.map (·.2)

theorem find_int (a : Int) : ∀ es : List (Int × AVal), Abs.find .int (.int .i64 a) (ksOf es) (vsOf es) = some ((es.find? (fun p => decide (a = p.1))).map (·.2))
  | [] => rfl
  | p :: es => by
    have ih := find_int a es
    simp only [ksOf, vsOf, List.map_cons, Abs.find, keq, if_true, List.find?_cons] at ih ⊢
    by_cases h : a = p.1
    · simp [h]
    · simp only [h, decide_false]
      exact ih

theorem find_other {kt : KT} {k : AVal} (h : ∀ n : Int, keq kt k (.int .i64 n) = none) : ∀ es : List (Int × AVal), Abs.find kt k (ksOf es) (vsOf es) = if es = [] then some none else none
  | [] => by simp [ksOf, vsOf, Abs.find]
  | p :: es => by simp [ksOf, vsOf, Abs.find, h]

theorem fst_inj : ∀ {l : List (Int × AVal)}, (l.map (·.1)).Nodup → ∀ {p q : Int × AVal}, p ∈ l → q ∈ l → p.1 = q.1 → p = q
  | x :: l, h, p, q, hp, hq, e => by
    simp only [List.map_cons, List.nodup_cons, List.mem_map, not_exists, not_and] at h
    rcases List.mem_cons.1 hp with hp1 | hp1
    · rcases List.mem_cons.1 hq with hq1 | hq1
      · rw [hp1, hq1]
      · exact absurd (by rw [← e, hp1]) (h.1 q hq1)
    · rcases List.mem_cons.1 hq with hq1 | hq1
      · exact absurd (by rw [e, hq1]) (h.1 p hp1)
      · exact fst_inj h.2 hp1 hq1 e

theorem find_perm {es fs : List (Int × AVal)} (hp : es.Perm fs) (hn : (es.map (·.1)).Nodup) (kt : KT) (k : AVal) : Abs.find kt k (ksOf es) (vsOf es) = Abs.find kt k (ksOf fs) (vsOf fs) := by
  have other : (∀ n : Int, keq kt k (.int .i64 n) = none) → Abs.find kt k (ksOf es) (vsOf es) = Abs.find kt k (ksOf fs) (vsOf fs) := fun h => by
    rw [find_other h, find_other h]
    have : es = [] ↔ fs = [] := by
      rw [← List.length_eq_zero_iff, ← List.length_eq_zero_iff, hp.length_eq]
    by_cases h0 : es = []
    · rw [if_pos h0, if_pos (this.1 h0)]
    · rw [if_neg h0, if_neg (fun e => h0 (this.2 e))]
  cases kt with
  | str => exact other (fun n => by cases k <;> rfl)
  | bool => exact other (fun n => by cases k <;> rfl)
  | int =>
    cases k
    case int j a =>
      by_cases hj : j = .i64
      · subst hj
        rw [find_int, find_int]
        congr 2
        cases h1 : es.find? (fun p => decide (a = p.1)) with
        | none =>
          symm
          rw [List.find?_eq_none] at h1 ⊢
          exact fun x hx => h1 x (hp.mem_iff.2 hx)
        | some p =>
          have hm := List.mem_of_find?_eq_some h1
          have hq := List.find?_some h1
          simp only [decide_eq_true_eq] at hq
          cases h2 : fs.find? (fun p => decide (a = p.1)) with
          | none =>
            rw [List.find?_eq_none] at h2
            exact absurd (by simpa using hq) (h2 p (hp.mem_iff.1 hm))
          | some q =>
            have hm2 := hp.mem_iff.2 (List.mem_of_find?_eq_some h2)
            have hq2 := List.find?_some h2
            simp only [decide_eq_true_eq] at hq2
            have : p = q := fst_inj hn hm hm2 (hq.symm.trans hq2)
            rw [this]
      · exact other (fun n => by simp [keq, hj])
    all_goals exact other (fun n => rfl)

theorem insertAt_new {k : Int} {v : AVal} : ∀ {es : List (Int × AVal)}, k ∉ es.map (·.1) → insertAt .int (.int .i64 k) v (ksOf es) (vsOf es) = some (ksOf (es ++ [(k, v)]), vsOf (es ++ [(k, v)]))
  | [], _ => rfl
  | p :: es, h => by
    simp only [List.map_cons, List.mem_cons, not_or] at h
    have ih := insertAt_new (v := v) h.2
    simp only [ksOf, vsOf, List.map_cons, List.cons_append, insertAt, keq, if_true, h.1, decide_false] at ih ⊢
    rw [ih]
    rfl

/-! ### A region that lays a map's entries in whatever order -/

def AOper.plain (o : AOper) : Bool := match o.op with
  | .makeMap | .insert _ _ _ _ => false
  | op => op.calm && o.guard.isNone && o.dst.isSome

/-- What is read is written ahead. -/
def readsBound (aos : List AOper) (ops : List Oper) : Bool :=
  (List.zip aos ops).all fun (x, o) => x.reads.all fun d => (aos.zipIdx).all fun (y, j) => y.dst != some d || o.after.toList.any fun e => Region.binds .any e && e.on == j

/-- The entry that an insertion lays. -/
def entryOf (F : Frame) (m : Nat) (o : AOper) : Option (Int × AVal) := match o.op with
  | .insert .int (.tmp k) (.val (.int .i64 n)) (.tmp d) => if k = m ∧ o.guard = none ∧ o.dst = none then some (n, (F.get d).strip) else none
  | _ => none

structure Opens (call : CallFn) (aos : List AOper) (ops : Array Oper) (A F : Frame) (n : Nat) (os : List AObj) (m : Nat) : Prop where
  bound : readsBound aos ops.toList = true
  len : aos.length = ops.size
  first : ∃ o, aos[0]? = some o ∧ o.op = .makeMap ∧ o.dst = some m ∧ o.guard = none
  kinds : ∀ (i : Nat) (o : AOper), aos[i]? = some o → i = 0 ∨ o.plain = true ∨ (entryOf F m o).isSome = true
  slot : F.get m = .map n
  base : ∀ d, (∀ (i : Nat) (o : AOper), aos[i]? = some o → o.dst ≠ some d) → A.get d = F.get d
  size : os.length = n
  runs0 : ∀ (i : Nat) (o : AOper), aos[i]? = some o → o.plain = true → ∀ d, o.dst = some d → aop call o.op F ⟨n, os⟩ = some (F.get d, F, ⟨n, os⟩)
  runs : ∀ (ks vs : List AVal) (i : Nat) (o : AOper), aos[i]? = some o → o.plain = true → ∀ d, o.dst = some d → aop call o.op F ⟨n + 1, .map ks vs :: os⟩ = some (F.get d, F, ⟨n + 1, .map ks vs :: os⟩)
  under : ∀ (i : Nat) (o : AOper) (p : Int × AVal), aos[i]? = some o → entryOf F m o = some p → p.2.under (n + 1) = true
  keys : (aos.filterMap fun o => (entryOf F m o).map (·.1)).Nodup

/-- How far such a region has come. -/
structure Laid (aos : List AOper) (F : Frame) (n : Nat) (os : List AObj) (m : Nat) (X : Nat → Prop) (B : Frame) (t : ASt) : Prop where
  frame : ∀ d, (∀ (i : Nat) (o : AOper), aos[i]? = some o → o.dst = some d → X i) → B.get d = F.get d
  none : ¬ X 0 → t = ⟨n, os⟩ ∧ ∀ (i : Nat) (o : AOper), aos[i]? = some o → (entryOf F m o).isSome = true → ¬ X i
  some : X 0 → ∃ is : List Nat, is.Nodup ∧ (∀ i, i ∈ is ↔ X i ∧ ∃ o, aos[i]? = some o ∧ (entryOf F m o).isSome = true) ∧
    t = ⟨n + 1, .map (ksOf (is.filterMap fun i => (aos[i]?).bind (entryOf F m))) (vsOf (is.filterMap fun i => (aos[i]?).bind (entryOf F m))) :: os⟩

variable {aos : List AOper} {ops : Array Oper} {F : Frame} {n m : Nat} {os : List AObj}

theorem entry_cases {o : AOper} {p : Int × AVal} (h : entryOf F m o = some p) : ∃ d, o.op = .insert .int (.tmp m) (.val (.int .i64 p.1)) (.tmp d) ∧ o.guard = none ∧ o.dst = none ∧ p.2 = (F.get d).strip := by
  unfold entryOf at h
  split at h
  · rename_i k nn d hop
    split at h
    · rename_i hc
      cases h
      obtain ⟨rfl, h2, h3⟩ := hc
      exact ⟨d, hop, h2, h3, rfl⟩
    · cases h
  · cases h

theorem entry_plain {o : AOper} {p : Int × AVal} (h : entryOf F m o = some p) : o.plain = false := by
  obtain ⟨d, h1, _⟩ := entry_cases h
  simp [AOper.plain, h1]

theorem filterMap_nodup {is : List Nat} {f : Nat → Option (Int × AVal)} (hn : is.Nodup) (hf : ∀ i ∈ is, ∀ j ∈ is, ∀ p q, f i = some p → f j = some q → p.1 = q.1 → i = j) : ((is.filterMap f).map (·.1)).Nodup := by
  induction is with
  | nil => simp
  | cons i is ih =>
    rw [List.nodup_cons] at hn
    have ih := ih hn.2 (fun a ha b hb => hf a (by simp [ha]) b (by simp [hb]))
    cases hfi : f i with
    | none => rw [List.filterMap_cons_none hfi]; exact ih
    | some p =>
      rw [List.filterMap_cons_some hfi, List.map_cons, List.nodup_cons]
      refine ⟨fun hm => ?_, ih⟩
      obtain ⟨q, hq, e⟩ := List.mem_map.1 hm
      obtain ⟨j, hj, hfj⟩ := List.mem_filterMap.1 hq
      have := hf i (by simp) j (by simp [hj]) p q hfi hfj e.symm
      subst this
      exact hn.1 hj

/-- The entries' keys stand apart. -/
theorem keys_apart {aos : List AOper} (h : (aos.filterMap fun o => (entryOf F m o).map (·.1)).Nodup) : ∀ (i j : Nat) (x y : AOper) (p q : Int × AVal), aos[i]? = some x → aos[j]? = some y → entryOf F m x = some p → entryOf F m y = some q → p.1 = q.1 → i = j := by
  induction aos with
  | nil => intro i j x y p q hx; simp at hx
  | cons o aos ih =>
    have hmem : ∀ (i : Nat) (x : AOper) (p : Int × AVal), aos[i]? = some x → entryOf F m x = some p → p.1 ∈ aos.filterMap (fun o => (entryOf F m o).map (·.1)) := fun i x p hx hp =>
      List.mem_filterMap.2 ⟨x, List.mem_of_getElem? hx, by simp [hp]⟩
    intro i j x y p q hx hy hp hq e
    cases ho : (entryOf F m o).map (·.1) with
    | none =>
      rw [List.filterMap_cons_none (f := fun o => (entryOf F m o).map (·.1)) ho] at h
      have ho' : entryOf F m o = none := by cases hh : entryOf F m o <;> simp [hh] at ho ⊢
      cases i with
      | zero => simp at hx; subst hx; rw [ho'] at hp; cases hp
      | succ i => cases j with
        | zero => simp at hy; subst hy; rw [ho'] at hq; cases hq
        | succ j => rw [ih h i j x y p q (by simpa using hx) (by simpa using hy) hp hq e]
    | some k =>
      rw [List.filterMap_cons_some (f := fun o => (entryOf F m o).map (·.1)) ho, List.nodup_cons] at h
      cases i with
      | zero =>
        simp at hx; subst hx
        rw [hp] at ho
        simp at ho
        cases j with
        | zero => rfl
        | succ j => exact absurd (by rw [← ho, e]; exact hmem j y q (by simpa using hy) hq) h.1
      | succ i => cases j with
        | zero =>
          simp at hy; subst hy
          rw [hq] at ho
          simp at ho
          exact absurd (by rw [← ho, ← e]; exact hmem i x p (by simpa using hx) hp) h.1
        | succ j => rw [ih h.2 i j x y p q (by simpa using hx) (by simpa using hy) hp hq e]

theorem opens_step (hO : Opens call aos ops A F n os m) {X : Nat → Prop} {B : Frame} {t : ASt} {i : Nat} {x : AOper} {o : Oper} (hL : Laid aos F n os m X B t) (hX : ¬ X i) (hx : aos[i]? = some x) (ho : ops[i]? = some o) (hb : bindsDone o X) :
    ∃ B' t', OperStep call x B t B' t' ∧ Laid aos F n os m (fun k => X k ∨ k = i) B' t' := by
  have hread : ∀ d ∈ x.reads, F.get d = B.get d := by
    intro d hd
    refine (hL.frame d (fun j y hy hyd => ?_)).symm
    have h1 := hO.bound
    unfold readsBound at h1
    rw [List.all_eq_true] at h1
    have h2 := h1 (x, o) (by
      rw [List.mem_iff_getElem?]
      exact ⟨i, by rw [List.getElem?_zip_eq_some]; exact ⟨hx, by simpa using ho⟩⟩)
    rw [List.all_eq_true] at h2
    have h3 := h2 d hd
    rw [List.all_eq_true] at h3
    have h4 := h3 (y, j) (by
      rw [List.mem_iff_getElem?]
      exact ⟨j, by rw [List.getElem?_zipIdx, hy]; simp⟩)
    simp only [hyd, bne_self_eq_false, Bool.false_or, List.any_eq_true, Bool.and_eq_true, beq_iff_eq] at h4
    obtain ⟨e, he, hbe, hej⟩ := h4
    rw [← hej]
    exact hb e (by simpa using he) hbe
  have frame' : ∀ (d : Nat), x.dst = some d → ∀ k, (∀ (j : Nat) (y : AOper), aos[j]? = some y → y.dst = some k → X j ∨ j = i) → (B.put d (F.get d)).get k = F.get k := by
    intro d hd k hk
    rw [get_put']
    by_cases e : d = k
    · subst e; rw [if_pos rfl]
    · rw [if_neg e]
      refine hL.frame k (fun j y hy hyk => (hk j y hy hyk).resolve_right (fun hji => ?_))
      subst hji
      rw [hx] at hy
      cases hy
      rw [hd] at hyk
      cases hyk
      exact e rfl
  have entry_ne : ∀ (j : Nat) (y : AOper), aos[j]? = some y → (entryOf F m y).isSome = true → x.plain = true → j ≠ i := by
    intro j y hy he hp e
    subst e
    rw [hx] at hy
    cases hy
    obtain ⟨p, hp2⟩ := Option.isSome_iff_exists.1 he
    rw [entry_plain hp2] at hp
    cases hp
  obtain ⟨x0, hx0, hx0op, hx0dst, hx0g⟩ := hO.first
  by_cases hpl : x.plain = true
  · have hi0 : i ≠ 0 := fun e => by
      subst e
      rw [hx] at hx0
      cases hx0
      simp [AOper.plain, hx0op] at hpl
    have hpl2 : x.op.calm = true ∧ x.guard = none ∧ ∃ d, x.dst = some d := by
      unfold AOper.plain at hpl
      split at hpl
      · cases hpl
      · cases hpl
      · simp only [Bool.and_eq_true, Option.isNone_iff_eq_none, Option.isSome_iff_exists] at hpl
        exact ⟨hpl.1.1, hpl.1.2, hpl.2⟩
    obtain ⟨hcalm, hg, d, hd⟩ := hpl2
    have hstep : ∀ s, aop call x.op F s = some (F.get d, F, s) → OperStep call x B s (B.put d (F.get d)) s := fun s hs => by
      have := (calm_congr hcalm (fun k hk => hread k (List.mem_append_left _ hk)) hs).2
      exact ⟨true, by rw [hg]; rfl, by simp only [if_true]; exact ⟨_, _, this, by rw [hd]; rfl⟩⟩
    by_cases h0 : X 0
    · obtain ⟨is, q1, q2, rfl⟩ := hL.some h0
      refine ⟨_, _, hstep _ (hO.runs _ _ i x hx hpl d hd), ⟨frame' d hd, fun hn => absurd (.inl h0) hn, fun _ => ⟨is, q1, fun k => ?_, rfl⟩⟩⟩
      rw [q2]
      constructor
      · rintro ⟨h1, h2⟩; exact ⟨.inl h1, h2⟩
      · rintro ⟨h1 | h1, y, hy, he⟩
        · exact ⟨h1, y, hy, he⟩
        · exact absurd h1 (entry_ne k y hy he hpl)
    · obtain ⟨rfl, q2⟩ := hL.none h0
      refine ⟨_, _, hstep _ (hO.runs0 i x hx hpl d hd), ⟨frame' d hd, fun _ => ⟨rfl, fun k y hy he hk => ?_⟩, fun hn => absurd (hn.resolve_right (Ne.symm hi0)) h0⟩⟩
      rcases hk with hk | hk
      · exact q2 k y hy he hk
      · exact entry_ne k y hy he hpl hk
  by_cases hent : (entryOf F m x).isSome = true
  · obtain ⟨p, hp⟩ := Option.isSome_iff_exists.1 hent
    obtain ⟨d, hop, hg, hdst, hp2⟩ := entry_cases hp
    have hi0 : i ≠ 0 := fun e => by
      subst e
      rw [hx] at hx0
      cases hx0
      rw [hx0op] at hop
      cases hop
    have hm : B.get m = .map n := by
      rw [← hread m (by simp [AOper.reads, hop, AOp.reads, Opd.slots]), hO.slot]
    have hdv : (B.get d).strip = p.2 := by
      rw [← hread d (by simp [AOper.reads, hop, AOp.reads, Opd.slots]), hp2]
    have h0 : X 0 := by
      have h1 := hL.frame
      refine Classical.byContradiction fun h0 => ?_
      have hmr : m ∈ x.reads := by simp [AOper.reads, hop, AOp.reads, Opd.slots]
      have h1 := hO.bound
      unfold readsBound at h1
      rw [List.all_eq_true] at h1
      have h2 := h1 (x, o) (by
        rw [List.mem_iff_getElem?]
        exact ⟨i, by rw [List.getElem?_zip_eq_some]; exact ⟨hx, by simpa using ho⟩⟩)
      rw [List.all_eq_true] at h2
      have h3 := h2 m hmr
      rw [List.all_eq_true] at h3
      have h4 := h3 (x0, 0) (by
        rw [List.mem_iff_getElem?]
        exact ⟨0, by rw [List.getElem?_zipIdx, hx0]; simp⟩)
      simp only [hx0dst, bne_self_eq_false, Bool.false_or, List.any_eq_true, Bool.and_eq_true, beq_iff_eq] at h4
      obtain ⟨e, he, hbe, hej⟩ := h4
      exact h0 (by rw [← hej]; exact hb e (by simpa using he) hbe)
    obtain ⟨is, q1, q2, rfl⟩ := hL.some h0
    have hget : (⟨n + 1, .map (ksOf (is.filterMap fun i => (aos[i]?).bind (entryOf F m))) (vsOf (is.filterMap fun i => (aos[i]?).bind (entryOf F m))) :: os⟩ : ASt).get n = some (.map (ksOf (is.filterMap fun i => (aos[i]?).bind (entryOf F m))) (vsOf (is.filterMap fun i => (aos[i]?).bind (entryOf F m)))) := by
      simp [ASt.get, getL]
    have hnew : p.1 ∉ (is.filterMap fun i => (aos[i]?).bind (entryOf F m)).map (·.1) := fun hmem => by
      obtain ⟨q, hq, e⟩ := List.mem_map.1 hmem
      obtain ⟨j, hj, hfj⟩ := List.mem_filterMap.1 hq
      obtain ⟨y, hy, hfj⟩ := bind_some' hfj
      have := keys_apart hO.keys j i y x q p hy hx hfj hp e
      subst this
      exact hX ((q2 j).1 hj).1
    have hins := insertAt_new (v := p.2) hnew
    have happ : (is.filterMap fun i => (aos[i]?).bind (entryOf F m)) ++ [(p.1, p.2)] = (is ++ [i]).filterMap fun i => (aos[i]?).bind (entryOf F m) := by
      rw [List.filterMap_append]
      simp [hx, hp]
    rw [happ] at hins
    have haop : aop call x.op B ⟨n + 1, .map (ksOf (is.filterMap fun i => (aos[i]?).bind (entryOf F m))) (vsOf (is.filterMap fun i => (aos[i]?).bind (entryOf F m))) :: os⟩ =
        some (.undef, B, ⟨n + 1, .map (ksOf ((is ++ [i]).filterMap fun i => (aos[i]?).bind (entryOf F m))) (vsOf ((is ++ [i]).filterMap fun i => (aos[i]?).bind (entryOf F m))) :: os⟩) := by
      have hm2 : (B.get m).strip = .map n := by rw [hm]; rfl
      rw [hop]
      simp only [aop, Opd.ev, hm2, hget, hdv, hins, Option.bind_eq_bind, Option.bind_some]
      rw [if_pos (by simp [AVal.under, hO.under i x p hx hp])]
      simp [ASt.set, setL]
    refine ⟨B, _, ⟨true, by rw [hg]; rfl, by simp only [if_true]; exact ⟨_, _, haop, by rw [hdst]; rfl⟩⟩, ⟨fun k hk => ?_, fun hn => absurd (.inl h0) hn, fun _ => ⟨is ++ [i], ?_, fun k => ?_, rfl⟩⟩⟩
    · refine hL.frame k (fun j y hy hyk => (hk j y hy hyk).resolve_right (fun hji => ?_))
      subst hji
      rw [hx] at hy
      cases hy
      rw [hdst] at hyk
      cases hyk
    · rw [List.nodup_append]
      refine ⟨q1, by simp, fun a ha b hb e => ?_⟩
      simp only [List.mem_singleton] at hb
      subst hb
      subst e
      exact hX ((q2 a).1 ha).1
    · simp only [List.mem_append, List.mem_singleton, q2]
      constructor
      · rintro (⟨h1, h2⟩ | rfl)
        · exact ⟨.inl h1, h2⟩
        · exact ⟨.inr rfl, x, hx, hent⟩
      · rintro ⟨h1 | rfl, h2⟩
        · exact .inl ⟨h1, h2⟩
        · exact .inr rfl
  rcases hO.kinds i x hx with hi | hi | hi
  · subst hi
    rw [hx] at hx0
    cases hx0
    obtain ⟨rfl, q2⟩ := hL.none hX
    have haop : aop call x.op B ⟨n, os⟩ = some (.map n, B, ⟨n + 1, .map [] [] :: os⟩) := by
      rw [hx0op]
      rfl
    refine ⟨B.put m (F.get m), _, ⟨true, by rw [hx0g]; rfl, by simp only [if_true]; exact ⟨_, _, haop, by rw [hx0dst, hO.slot]; rfl⟩⟩, ⟨frame' m hx0dst, fun hn => absurd (.inr rfl) hn, fun _ => ⟨[], by simp, fun k => ?_, rfl⟩⟩⟩
    simp only [List.not_mem_nil, false_iff, not_and, not_exists]
    rintro (hk | rfl) y hy he
    · exact absurd hk (q2 k y hy he)
    · rw [hx] at hy
      cases hy
      exact hent he
  · exact absurd hi hpl
  · exact absurd hi hent

theorem opens_sound {r : Option Nat} {mm : Nat} (hcall : CallSound P fm call) (hmx : P.follows .mixedOrders = true) (hok : okOpers P fm nt ops aos ops.toList = true) (hO : Opens call aos ops A F n os m)
    (hback : ∀ (k : Nat) (o : Oper), ops[k]? = some o → ∀ e ∈ o.after, Region.binds .any e = true → e.on < k)
    {id : Nat} (hS : Sim fm ⟨n, os⟩ g w) (hF : FrameRep fm g n nt A a.tmps) {Q : Exit → Act → World → Prop}
    (hQ : ∀ (es : List (Int × AVal)) B a' w' g', es.Perm (aos.filterMap (entryOf F m)) → (∀ d, B.get d = F.get d) → RPost fm nt g w ⟨n, os⟩ ⟨n + 1, .map (ksOf es) (vsOf es) :: os⟩ B a a' g' w' → Q .normal a' w') :
    (Code.region id ops true).wpIn (FW r) mm P Q a w := by
  refine draw_inv hcall hmx hok hback (Laid aos F n os m) (fun X B t i x o hL hX hx ho hb => opens_step hO hL hX hx ho hb) hS hF ⟨fun d hd => ?_, fun _ => ⟨rfl, fun _ _ _ _ h => h⟩, fun h => h.elim⟩ ?_
  · exact hO.base d (fun i o ho hod => hd i o ho hod)
  · intro X B t a' w' g' hX hL hp
    have hlt : ∀ (i : Nat) (o : AOper), aos[i]? = some o → X i := fun i o ho => hX i (by rw [← hO.len]; exact (List.getElem?_eq_some_iff.1 ho).1)
    obtain ⟨x0, hx0, _⟩ := hO.first
    obtain ⟨is, q1, q2, rfl⟩ := hL.some (hlt 0 x0 hx0)
    refine hQ _ B a' w' g' ?_ (fun d => hL.frame d (fun i o ho _ => hlt i o ho)) hp
    have hall : (aos.filterMap (entryOf F m)) = (List.range aos.length).filterMap fun i => (aos[i]?).bind (entryOf F m) := by
      have : aos.map some = (List.range aos.length).map fun i => aos[i]? := by
        apply List.ext_getElem?
        intro i
        simp only [List.getElem?_map, List.getElem?_range]
        by_cases h : i < aos.length
        · simp [h]
        · simp [h]
      have h2 : ((List.range aos.length).map fun i => aos[i]?).filterMap (fun o => o.bind (entryOf F m)) = (aos.map some).filterMap (fun o => o.bind (entryOf F m)) := by rw [this]
      rw [List.filterMap_map, List.filterMap_map] at h2
      exact h2.symm
    rw [hall]
    have hfil : ((List.range aos.length).filterMap fun i => (aos[i]?).bind (entryOf F m)) = ((List.range aos.length).filter fun i => ((aos[i]?).bind (entryOf F m)).isSome).filterMap fun i => (aos[i]?).bind (entryOf F m) := by
      rw [List.filterMap_filter]
      congr 1
      funext i
      cases h : (aos[i]?).bind (entryOf F m) <;> simp [h]
    rw [hfil]
    refine List.Perm.filterMap _ ?_
    rw [List.perm_ext_iff_of_nodup q1 ((List.nodup_range).filter _)]
    intro i
    rw [q2, List.mem_filter, List.mem_range]
    constructor
    · rintro ⟨_, y, hy, he⟩
      exact ⟨(List.getElem?_eq_some_iff.1 hy).1, by simp [hy, he]⟩
    · rintro ⟨h1, h2⟩
      obtain ⟨y, hy⟩ : ∃ y, aos[i]? = some y := ⟨aos[i], by simp [h1]⟩
      rw [hy] at h2
      exact ⟨hlt i y hy, y, hy, h2⟩

end
end Go.Proofs.YtdhgdpokdhjanaaGreat.Abs
/- A walk by pieces: code taken apart, a region with one instruction met by hand, objects that end early, blocks of others. -/
namespace Go.Proofs.YtdhgdpokdhjanaaGreat.Abs
open Go

section
variable {P : Program} {fm : Nat → Nat} {nt : Nat} {g g' g'' : Gh} {s s' s'' s1 s2 t : ASt} {A A' A'' A1 B : Frame} {a a' a'' a1 : Act} {w w' w'' : World} {call : CallFn} {loop : LoopFn}

theorem okCode_seq {x y : ACode} {c : Code} (h : okCode P fm nt (.seq x y) c = true) : ∃ c1 c2, c = .seq c1 c2 ∧ okCode P fm nt x c1 = true ∧ okCode P fm nt y c2 = true := by
  cases c <;> simp only [okCode, Bool.false_eq_true, Bool.and_eq_true] at h
  exact ⟨_, _, rfl, h.1, h.2⟩
theorem okCode_region {aos : List AOper} {keep : List Nat} {c : Code} (h : okCode P fm nt (.region none aos keep) c = true) : ∃ id ops, c = .region id ops false ∧ okOpers P fm nt ops aos ops.toList = true := by
  cases c <;> try (simp only [okCode, Bool.false_eq_true] at h; done)
  rename_i id ops d
  cases d <;> simp only [okCode, Bool.false_eq_true] at h
  exact ⟨id, ops, rfl, h⟩
theorem okCode_block {i : Nat} {x : ACode} {c : Code} (h : okCode P fm nt (.block i x) c = true) : ∃ c1, c = .block i c1 ∧ okCode P fm nt x c1 = true := by
  cases c <;> simp only [okCode, Bool.false_eq_true, Bool.and_eq_true, beq_iff_eq] at h
  obtain ⟨rfl, h⟩ := h
  exact ⟨_, rfl, h⟩
theorem okCode_loop {x : ACode} {keep : List Nat} {c : Code} (h : okCode P fm nt (.loop x keep) c = true) : ∃ c1, c = .loop c1 ∧ okCode P fm nt x c1 = true := by
  cases c <;> simp only [okCode, Bool.false_eq_true] at h
  exact ⟨_, rfl, h⟩

/-- A value that owns nothing. -/
def AVal.idle : AVal → Bool
  | .sl _ _ .none | .sl _ _ .exact => true
  | .sl _ _ _ => false
  | _ => true
theorem slot_idle {n : Nat} {tg : Tag} {x : AVal} {v : Value} (hx : x.idle = true) (h : SlotRep fm g n tg x v) : Rep fm g n x v := by
  cases x
  case sl cs l o => cases o <;> first | exact h | (simp [AVal.idle] at hx)
  all_goals exact h

theorem FrameRep.plain {n n' : Nat} {tmps : Array Value} (hF : FrameRep fm g n nt A tmps) (hA : ∀ d, (A.get d).idle = true) (hle : le n g g') (hn : n ≤ n') : FrameRep fm g' n' nt A tmps :=
  ⟨hF.1, fun d hd => let ⟨v, h1, h2⟩ := hF.2 d hd; ⟨v, h1, ((slot_idle (hA d) h2).mono hle hn).slot⟩⟩

theorem idle_frame {A : Frame} (h : (A.all fun p => p.2.idle) = true) : ∀ d, (A.get d).idle = true := by
  induction A with
  | nil => intro d; rfl
  | cons p A ih =>
    obtain ⟨k, v⟩ := p
    simp only [List.all_cons, Bool.and_eq_true] at h
    intro d
    show (if k = d then v else Frame.get A d).idle = true
    split
    · exact h.1
    · exact ih h.2 d

/-- A region, one of its instructions met by hand. -/
theorem ops_special {r : Option Nat} {m : Nat} (hcall : CallSound P fm call) {ops : Array Oper} {sp : AOper} {post : List AOper} (hg : sp.guard = none) {v : AVal} {Q : Exit → Act → World → Prop} {a0 : Act} {w0 : World} {g0 : Gh} {s0 : ASt}
    (hidle : ∀ d, (A1.get d).idle = true)
    (hsp : ∀ (o : Oper) a1 w1 g1, okOper P fm nt ops sp o = true → RPost fm nt g0 w0 s0 s1 A1 a0 a1 g1 w1 → ∀ K : Act → World → Prop,
      (∀ cv g2 w2, Sim fm s2 g2 w2 → le s1.n g1 g2 → s1.n ≤ s2.n → Kept g1 g2 w1 w2 → Rep fm g2 s2.n v cv → K (a1.put o.dst cv) w2) → o.wpIn (FW r) m P a1 w1 K Q)
    (hpost : exOps call post (A1.putO sp.dst v) s2 = some (A', s'))
    (hQ : ∀ a' w' g', RPost fm nt g0 w0 s0 s' A' a0 a' g' w' → Q .normal a' w') : ∀ (pre : List AOper) (os : List Oper) (k : Nat) (A : Frame) (s : ASt) (g : Gh) (w : World) (a : Act),
    okOpers P fm nt ops (pre ++ sp :: post) os = true → (∀ j, os[j]? = ops[k + j]?) → RPost fm nt g0 w0 s0 s A a0 a g w → exOps call pre A s = some (A1, s1) →
    wpOpsIn (FW r) m P ops Q (List.range' k (pre ++ sp :: post).length) a w
  | [], [], _, _, _, _, _, _, h, _, _, _ => by simp [okOpers] at h
  | [], o :: os, k, A, s, g, w, a, hok, hops, hR, h => by
    simp only [exOps, Option.some.injEq, Prod.mk.injEq] at h
    obtain ⟨rfl, rfl⟩ := h
    simp only [List.nil_append, okOpers, Bool.and_eq_true] at hok
    simp only [List.nil_append, List.length_cons, List.range'_succ]
    rw [wpOpsIn_cons]
    have hi : ops[k]? = some o := by simpa using (hops 0).symm
    have hok1 := hok.1
    unfold okOper at hok1
    simp only [Bool.and_eq_true, beq_iff_eq] at hok1
    obtain ⟨⟨⟨hd, hdn⟩, hop⟩, hgd⟩ := hok1
    have hw := wanted_run (o := o) rfl hR.frame hgd (by rw [hg]; rfl : wanted A sp.guard = some true)
    simp only [wpOpIn, hi, hw, if_true]
    refine hsp o a w g hok.1 hR _ (fun cv g2 w2 q1 q2 q3 q4 q5 => ?_)
    have hF2 : FrameRep fm g2 s2.n nt A a.tmps := hR.frame.plain hidle q2 q3
    obtain ⟨g3, p1, p2, p3, p4⟩ := put_sound (dst := sp.dst) q1 hF2 q5.slot (fun d hdd => by rw [hdd] at hdn; simpa [dstOk] using hdn)
    rw [← hd] at p4 hpost
    refine exOps_sound hcall post os (k + 1) (A.putO o.dst v) s2 g3 w2 _ A' s' hok.2 (fun j => by rw [show k + 1 + j = k + (j + 1) from by omega]; simpa using hops (j + 1)) p1 p4 hpost (fun a' w' g' hp => ?_)
    refine hQ a' w' g' (hR.trans (RPost.trans (a' := a.put o.dst cv) (A' := A.putO o.dst v) ⟨p1, q2.trans (p2.less q3), q3, q4.trans p3, p4, put_defers _ _ _⟩ hp))
  | x :: pre, [], _, _, _, _, _, _, h, _, _, _ => by simp [okOpers] at h
  | x :: pre, o :: os, k, A, s, g, w, a, hok, hops, hR, h => by
    simp only [List.cons_append, okOpers, Bool.and_eq_true] at hok
    obtain ⟨b, B1, t1, hw, hstep, hrest⟩ := exOps_cons h
    simp only [List.cons_append, List.length_cons, List.range'_succ]
    rw [wpOpsIn_cons]
    have hi : ops[k]? = some o := by simpa using (hops 0).symm
    refine oper_sound hcall hR.sim hR.frame hok.1 hw hstep hi (fun a1 w1 g1 hp => ?_)
    exact ops_special hcall hg hidle hsp hpost hQ pre os (k + 1) B1 t1 g1 w1 a1 hok.2 (fun j => by rw [show k + 1 + j = k + (j + 1) from by omega]; simpa using hops (j + 1)) (hR.trans hp) hrest

theorem region_special {r : Option Nat} {m : Nat} (hcall : CallSound P fm call) {ops : Array Oper} {pre post : List AOper} {sp : AOper} (hok : okOpers P fm nt ops (pre ++ sp :: post) ops.toList = true) (hg : sp.guard = none) {v : AVal}
    {Q : Exit → Act → World → Prop} (hS : Sim fm s g w) (hF : FrameRep fm g s.n nt A a.tmps) (hpre : exOps call pre A s = some (A1, s1)) (hidle : ∀ d, (A1.get d).idle = true)
    (hsp : ∀ (o : Oper) a1 w1 g1, okOper P fm nt ops sp o = true → RPost fm nt g w s s1 A1 a a1 g1 w1 → ∀ K : Act → World → Prop,
      (∀ cv g2 w2, Sim fm s2 g2 w2 → le s1.n g1 g2 → s1.n ≤ s2.n → Kept g1 g2 w1 w2 → Rep fm g2 s2.n v cv → K (a1.put o.dst cv) w2) → o.wpIn (FW r) m P a1 w1 K Q)
    (hpost : exOps call post (A1.putO sp.dst v) s2 = some (A', s')) {keep : List Nat} {id : Nat}
    (hQ : ∀ a' w' g', RPost fm nt g w s s' (A'.keep keep) a a' g' w' → Q .normal a' w') : (Code.region id ops false).wpIn (FW r) m P Q a w := by
  have hlen : (pre ++ sp :: post).length = ops.size := by
    have : ∀ (x : List AOper) (y : List Oper), okOpers P fm nt ops x y = true → x.length = y.length := by
      intro x
      induction x with
      | nil => intro y hy; cases y <;> simp [okOpers] at hy ⊢
      | cons a l ih => intro y hy; cases y <;> simp [okOpers] at hy ⊢; exact ih _ hy.2
    rw [this _ _ hok]; simp
  refine wpIn_region ?_
  have := ops_special (r := r) (m := m) (Q := Q) hcall hg hidle hsp hpost (fun a' w' g' hp => hQ a' w' g' ⟨hp.sim, hp.le, hp.n, hp.kept, hp.frame.keeps keep, hp.defers⟩) pre ops.toList 0 A s g w a hok (fun j => by simp)
    ⟨hS, le.refl _ _, Nat.le_refl _, Kept.refl _ _, hF, rfl⟩ hpre
  rw [hlen, ← List.range_eq_range'] at this
  exact this

/-- Objects end. -/
theorem freeze_post (hp : RPost fm nt g w s s' A' a a' g' w') {ds : List Nat} (hB : keepF s.n s' A' ds = some B) : RPost fm nt g w s (s'.trunc s.n) B a a' (g'.frozen s.n w') w' :=
  ⟨hp.sim.frozen hp.n, hp.le.trans (frozen_le hp.sim _), Nat.le_refl _, hp.kept.trans (frozen_kept _), keepF_sound hp.sim hp.n hp.frame hB, hp.defers⟩

/-! ### Blocks of others -/

structure Foreign (g : Gh) (b : Nat) : Prop where
  own : g.own b = .other false
  st : g.st b = []
  mst : g.mst b = none

theorem Foreign.kept {b : Nat} (h : Foreign g b) (hk : Kept g g' w w') : Foreign g' b ∧ w'.heap[b]? = w.heap[b]? := by
  obtain ⟨⟨f1, f2, f3⟩, f4⟩ := hk.blk b _ h.own
  exact ⟨⟨by rw [f1, h.own], by rw [f2, h.st], by rw [hk.mst b _ h.own, h.mst]⟩, f4⟩

theorem Sim.others {b : Nat} (hS : Sim fm s g w) (hb : Foreign g b) (hw : ∀ k, k ≠ b → w'.heap[k]? = w.heap[k]?) (hz : w'.heap.size = w.heap.size) : Sim fm s g w' := by
  refine hS.step (· = b) hS.size (le.refl _ _) (Nat.le_refl _) (fun k hk => ⟨⟨rfl, rfl, rfl⟩, rfl, hw k hk⟩) (fun k h1 h2 => by omega) (by omega) ?_ ?_ ?_ ?_ ?_ (fun k hk q e => by subst hk; rw [hb.own] at e; cases e)
  · intro r o' hr
    left
    refine ⟨hr, rfl, fun k hk e => ?_, fun _ => rfl, fun k c hk e => ?_⟩
    · subst e
      have := (hS.objn r k hk).2.1
      rw [hb.own] at this
      cases this
    · subst e
      rw [hb.own] at hk
      cases hk
  · intro r k hk
    left
    refine ⟨hk, fun e => ?_⟩
    subst e
    have := (hS.objn r k hk).2.1
    rw [hb.own] at this
    cases this
  · intro k hk h
    subst hk
    rcases h with h | h
    · exact absurd hb.st h
    · rw [hb.own] at h; simp [Tag.held] at h
  · intro k hk ks us h
    subst hk
    rw [hb.mst] at h
    cases h
  · intro k hk h
    subst hk
    have := (hS.fresh k (by omega)).1
    rw [hb.own] at this
    cases this

/-- A new block of another's. -/
theorem Sim.foreign (hS : Sim fm s g w) (o : Obj) : Sim fm s (g.tag w.heap.size (.other false)) (w.alloc o) ∧ Foreign (g.tag w.heap.size (.other false)) w.heap.size ∧ Kept g (g.tag w.heap.size (.other false)) w (w.alloc o) := by
  obtain ⟨f1, f2, f3⟩ := hS.fresh w.heap.size (Nat.le_refl _)
  have hne : ∀ k t, g.own k = t → t ≠ .free → k ≠ w.heap.size := fun k t hk ht e => ht (by rw [← hk, e, f1])
  have hown : ∀ k, k ≠ w.heap.size → (g.tag w.heap.size (.other false)).own k = g.own k := fun k hk => by simp [Gh.tag, hk]
  refine ⟨?_, ⟨by simp [Gh.tag], f2, f3⟩, ⟨fun k x hk => ⟨⟨hown k (hne k _ hk (by simp)), rfl, rfl⟩, by rw [alloc_get, if_neg (hne k _ hk (by simp))]⟩, rfl, rfl, fun _ _ _ => rfl⟩⟩
  refine hS.step (· = w.heap.size) hS.size (tag_le _ _ _) (Nat.le_refl _) (fun k hk => ⟨⟨hown k hk, rfl, rfl⟩, rfl, by rw [alloc_get, if_neg hk]⟩) (fun k h1 h2 => by rw [World.size_alloc] at h2; omega) (by rw [World.size_alloc]; omega) ?_ ?_ ?_ ?_ ?_
    (fun k hk q e => by subst hk; rw [f1] at e; cases e)
  · intro r o' hr
    left
    refine ⟨hr, rfl, fun k hk e => ?_, fun _ => rfl, fun k c hk => hne k _ hk (by simp)⟩
    obtain ⟨_, _, h3, _⟩ := hS.objn r k hk
    omega
  · intro r k hk
    left
    obtain ⟨_, _, h3, _⟩ := hS.objn r k hk
    exact ⟨hk, by omega⟩
  · intro k hk h
    subst hk
    rcases h with h | h
    · exact absurd f2 h
    · simp [Gh.tag, Tag.held] at h
  · intro k hk ks us h
    subst hk
    have h : g.mst w.heap.size = some (ks, us) := h
    rw [f3] at h
    cases h
  · intro k hk h
    subst hk
    rw [World.size_alloc] at h
    omega

end
end Go.Proofs.YtdhgdpokdhjanaaGreat.Abs
