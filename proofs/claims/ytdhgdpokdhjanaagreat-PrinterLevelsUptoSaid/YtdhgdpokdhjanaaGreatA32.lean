/- What comes in: plain data, every block of it another's and steady. -/
import Derived.Test.YtdhgdpokdhjanaaGreatA24
import Derived.ChangeArms
import Derived.ChangeSame
import Derived.JoinedCond
import Derived.OpenShut
set_option linter.unusedSimpArgs false
set_option linter.unusedVariables false
namespace Go.Proofs.YtdhgdpokdhjanaaGreat.Abs
open Go

def Gh.first (W : World) : Gh where
  obj := fun _ => none
  own := fun b => if b < W.heap.size then .other false else .free
  st := fun b => cellsAt W b
  mst := fun _ => none
  vec := fun _ _ => none
  sz := fun b => (cellsAt W b).length

mutual
def dcells {H : Type} : DataW H → List AVal
  | .lit (.bool b) => [.bool b]
  | .lit (.int k n) => [.int k n]
  | .lit (.string l) => [.str l]
  | .nil => [.nils]
  | .slice elems _ => [.sl (dcellsL elems) elems.length .none]
  | .agg parts => dcellsL parts
  | _ => []
def dcellsL {H : Type} : List (DataW H) → List AVal
  | [] => []
  | d :: l => dcells d ++ dcellsL l
end

section
variable (P : Program) (S : List Nat)
def contig : Nat → List Field → Nat → Bool
  | k, [], n => k == n
  | k, f :: r, n => f.offset == k && S.contains f.type && contig (k + P.cellsOf f.type) r n
def plainAt (t : Nat) : Bool := match P.underlying t with
  | some .bool | some (.int _) | some .string => P.cellsOf t == 1
  | some (.slice e) => P.cellsOf t == 1 && S.contains e && P.cellsOf e != 0
  | some (.struct fs) => contig P S 0 fs.toList (P.cellsOf t)
  | _ => false
end

section
variable {P : Program} {S : List Nat} {fm : Nat → Nat} {W : World} {H : Type} {enc : TypeId × Value → H} {sp : Nat → Bool} {held : Bool}

theorem Sim.first : Sim fm ⟨0, []⟩ (Gh.first W) W where
  size := rfl
  objs := fun r o h => by simp [ASt.get, getL] at h
  objn := fun r b h => by simp [Gh.first] at h
  st := fun b h => by
    have h : cellsAt W b ≠ [] := by
      rcases h with h | h
      · exact h
      · simp only [Gh.first] at h
        split at h <;> simp [Tag.held] at h
    unfold Gh.first
    simp only
    unfold cellsAt at h ⊢
    split at h
    · rename_i c elem fr hw
      refine ⟨c, elem, fr, hw, ?_, ?_, fun hh => ?_⟩
      · simp
      · simp
      · split at hh <;> simp [Tag.held] at hh
    · exact absurd rfl h
  mst := fun b ks vs h => by simp [Gh.first] at h
  fresh := fun b h => by
    have h0 : ¬ b < W.heap.size := by omega
    refine ⟨by simp [Gh.first, h0], ?_, rfl⟩
    simp [Gh.first, cellsAt, Array.getElem?_eq_none h]

theorem dcellsL_append (l m : List (DataW H)) : dcellsL (l ++ m) = dcellsL l ++ dcellsL m := by
  induction l with
  | nil => rfl
  | cons d l ih => simp [dcellsL, ih]

theorem contig_le : ∀ {fs : List Field} {k n : Nat}, contig P S k fs n = true → k ≤ n
  | [], k, n, h => by simp [contig] at h; omega
  | f :: r, k, n, h => by
    simp only [contig, Bool.and_eq_true] at h
    have := contig_le h.2
    omega

theorem take_split {α : Type} (l : List α) (k s n : Nat) (h : k + s ≤ n) : (l.drop k).take (n - k) = (l.drop k).take s ++ (l.drop (k + s)).take (n - (k + s)) := by
  rw [show n - k = s + (n - (k + s)) from by omega, List.take_add, List.drop_drop]

theorem fields_rep {g : Gh} {m : Nat} {cs : List Value} : ∀ {fs : List Field} {xs : List (DataW H × List MemPlace)} {k n : Nat}, contig P S k fs n = true → xs.length = fs.length →
    (∀ (i : Nat) f x, fs[i]? = some f → xs[i]? = some x → RepL fm g m (dcells x.1) ((cs.drop f.offset).take (P.cellsOf f.type))) → RepL fm g m (dcellsL (xs.map (·.1))) ((cs.drop k).take (n - k))
  | [], [], k, n, h, _, _ => by
    simp [contig] at h
    subst h
    simpa [dcellsL] using RepL.nil
  | f :: fs, x :: xs, k, n, h, hl, hr => by
    simp only [contig, Bool.and_eq_true, beq_iff_eq] at h
    have hle := contig_le h.2
    rw [take_split cs k (P.cellsOf f.type) n hle]
    have h0 := hr 0 f x rfl rfl
    rw [h.1.1] at h0
    exact h0.append (fields_rep h.2 (by simpa using hl) (fun i f' x' hf hx => hr (i + 1) f' x' (by simpa using hf) (by simpa using hx)))
  | [], _ :: _, _, _, _, hl, _ => by simp at hl
  | _ :: _, [], _, _, _, hl, _ => by simp at hl

theorem add_block (a : Addr) (i : Nat) : (a.add i).block = a.block := by unfold Addr.add; split <;> rfl
theorem add_off (a : Addr) (i : Nat) : (a.add i).off = a.off + i := by
  unfold Addr.add
  split
  · rename_i h; rw [h]; rfl
  · rfl
theorem cells_cut {a : Addr} {n : Nat} {l : List Value} (h : W.cells? 0 a n = some l) (hn : n ≠ 0) : a.spot = none ∧ l = ((cellsAt W a.block).drop a.off).take n ∧ l.length = n := by
  unfold World.cells? at h
  rw [if_pos (Nat.zero_le _)] at h
  obtain ⟨h1, h2⟩ := mapM_some h
  have hlen : l.length = n := by simpa using h1.symm
  have hc : ∀ i, i < n → ∃ y, l[i]? = some y ∧ W.cell? (a.add i) = some y := fun i hi => h2 i i (by simp [hi])
  obtain ⟨y0, _, hy0⟩ := hc 0 (by omega)
  have hspot : a.spot = none := by
    unfold World.cell? at hy0
    split at hy0
    · split at hy0
      · cases hy0
      · rename_i hs
        cases hsp : a.spot with
        | none => rfl
        | some x => simp [Addr.add, hsp] at hs
    · cases hy0
  refine ⟨hspot, ?_, hlen⟩
  have hcell : ∀ i v, W.cell? (a.add i) = some v → (cellsAt W a.block)[a.off + i]? = some v := by
    intro i v hv
    unfold World.cell? at hv
    unfold cellsAt
    have hb : (a.add i).block = a.block := add_block a i
    rw [hb] at hv
    split at hv
    · rename_i c e fr hw
      rw [hw]
      split at hv
      · cases hv
      · rw [add_off] at hv; simpa using hv
    · cases hv
  apply List.ext_getElem?
  intro i
  by_cases hi : i < n
  · obtain ⟨y, h3, h4⟩ := hc i hi
    rw [h3, List.getElem?_take, if_pos hi, List.getElem?_drop]
    exact (hcell i y h4).symm
  · rw [List.getElem?_eq_none (by omega), List.getElem?_take, if_neg hi]

theorem rows_rep {g : Gh} {m sz : Nat} {cs : List Value} : ∀ {xs : List (DataW H × List MemPlace)} {k : Nat},
    (∀ (i : Nat) x, xs[i]? = some x → RepL fm g m (dcells x.1) ((cs.drop (k + i * sz)).take sz)) → RepL fm g m (dcellsL (xs.map (·.1))) ((cs.drop k).take (xs.length * sz))
  | [], k, _ => by simpa [dcellsL] using RepL.nil
  | x :: xs, k, h => by
    have h0 := h 0 x rfl
    rw [Nat.zero_mul, Nat.add_zero] at h0
    have ht := rows_rep (xs := xs) (k := k + sz) (fun i y hy => by
      have := h (i + 1) y (by simpa using hy)
      rw [show k + (i + 1) * sz = k + sz + i * sz from by rw [Nat.add_mul]; omega] at this
      exact this)
    have := h0.append ht
    rw [show (x :: xs).length * sz = sz + xs.length * sz from by simp [Nat.add_mul]; omega, List.take_add, List.drop_drop]
    exact this

theorem trod_rep (hS : ∀ t ∈ S, plainAt P S t = true) : ∀ (fuel t : Nat) (cs : List Value) (x : DataW H × List MemPlace), t ∈ S → DataW.trod enc P W 0 sp held fuel t cs = some x →
    RepL fm (Gh.first W) 0 (dcells x.1) cs ∧ cs.length = P.cellsOf t := by
  intro fuel
  induction fuel with
  | zero => intro t cs x _ h; simp [DataW.trod] at h
  | succ fuel ih =>
    intro t cs x ht h
    have hp := hS t ht
    unfold plainAt at hp
    split at hp
    · rename_i hu
      obtain ⟨b, rfl, rfl⟩ := DataW.trod_bool hu h
      exact ⟨.cons _ _ _ _ (.bool b) .nil, by simpa using (beq_iff_eq.1 hp).symm⟩
    · rename_i k hu
      obtain ⟨n, rfl, rfl, _⟩ := DataW.trod_int hu h
      exact ⟨.cons _ _ _ _ (.int k n) .nil, by simpa using (beq_iff_eq.1 hp).symm⟩
    · rename_i hu
      obtain ⟨s, rfl, rfl, _⟩ := DataW.trod_string hu h
      refine ⟨.cons _ _ _ _ ?_ .nil, by simpa using (beq_iff_eq.1 hp).symm⟩
      have : Rep fm (Gh.first W) 0 (.str s.data.toList) (.string ⟨s.data.toList.toArray⟩) := .str _
      have e : (⟨s.data.toList.toArray⟩ : ByteArray) = s := by cases s; simp
      rwa [e] at this
    · rename_i e hu
      simp only [Bool.and_eq_true, beq_iff_eq, bne_iff_ne, ne_eq] at hp
      obtain ⟨⟨hp1, hp2⟩, hp3⟩ := hp
      have he : e ∈ S := by simpa using hp2
      rcases DataW.trod_slice hu h with ⟨rfl, rfl⟩ | ⟨a, len, cap, elems, rest, n, hf, rfl, rfl, _, hle, _, hlen, hel, _⟩
      · exact ⟨.cons _ _ _ _ .nils .nil, by simp [hp1]⟩
      · cases hf
        refine ⟨.cons _ _ _ _ ?_ .nil, by simp [hp1]⟩
        by_cases h0 : len = 0
        · subst h0
          have : elems = [] := List.length_eq_zero_iff.1 hlen
          subst this
          exact .sl0 a cap
        · have hone : ∀ (i : Nat) y, elems[i]? = some y → (i = 0 → a.spot = none) ∧ RepL fm (Gh.first W) 0 (dcells y.1) (((cellsAt W a.block).drop (a.off + i * P.cellsOf e)).take (P.cellsOf e)) := by
            intro i y hy
            have hi : i < len := by rw [← hlen]; exact (List.getElem?_eq_some_iff.1 hy).1
            have h1 := hel i hi
            rw [hy] at h1
            obtain ⟨l, hl, htr⟩ := bind_some' h1
            obtain ⟨q1, q2, q3⟩ := cells_cut hl hp3
            have := (ih e l y he htr).1
            rw [q2, add_block, add_off] at this
            refine ⟨fun h0 => ?_, this⟩
            subst h0
            rw [Nat.zero_mul] at q1
            exact q1
          obtain ⟨y0, hy0⟩ : ∃ y0, elems[0]? = some y0 := ⟨elems[0], by simp⟩
          have hspot := (hone 0 y0 hy0).1 rfl
          have hrows := rows_rep (sz := P.cellsOf e) (k := a.off) (cs := cellsAt W a.block) (xs := elems) (fun i y hy => (hone i y hy).2)
          obtain ⟨ab, ao, asp⟩ := a
          simp only at hspot
          subst hspot
          have hlen' : (elems.map (·.1)).length = len := by simp [hlen]
          show Rep fm (Gh.first W) 0 (.sl (dcellsL (elems.map (·.1))) (elems.map (·.1)).length .none) _
          rw [hlen']
          refine .sl _ _ _ ab ao cap _ (.inl rfl) hle hrows ?_
          show _ <+: (cellsAt W ab).drop ao
          exact List.take_prefix _ _
    · rename_i fs hu
      obtain ⟨xs, n, hf, rfl, hcl, hxl, hall⟩ := DataW.trod_struct hu h
      cases hf
      refine ⟨?_, hcl⟩
      have hmem : ∀ (fs : List Field) (k n : Nat), contig P S k fs n = true → ∀ f ∈ fs, f.type ∈ S := by
        intro fs
        induction fs with
        | nil => intro _ _ _ f hf; cases hf
        | cons f0 fs ih2 =>
          intro k n hc f hf
          simp only [contig, Bool.and_eq_true] at hc
          rcases List.mem_cons.1 hf with rfl | hf
          · simpa using hc.1.2
          · exact ih2 _ _ hc.2 f hf
      have := fields_rep (fm := fm) (g := Gh.first W) (m := 0) (cs := cs) hp (xs := xs) (by simpa using hxl) (fun i f y hf hy => by
        have h1 := hall i f (by simpa using hf)
        rw [hy] at h1
        exact (ih f.type _ y (hmem _ _ _ hp f (List.mem_of_getElem? hf)) h1).1)
      simp only [List.drop_zero, Nat.sub_zero, ← hcl, List.take_length] at this
      exact this
    · cases hp

end
end Go.Proofs.YtdhgdpokdhjanaaGreat.Abs
/- The plain data that came in reads behind the call as it read before. -/
namespace Go.Proofs.YtdhgdpokdhjanaaGreat.Abs
open Go

section
variable {P : Program} {S : List Nat} {W W' : World} {H : Type} {enc : TypeId × Value → H} {sp sp' : Nat → Bool} {held : Bool}

theorem mapM_all {α β : Type} {f : α → Option β} : ∀ {l : List α} {r : List β}, l.length = r.length → (∀ (i : Nat) (x : α) (y : β), l[i]? = some x → r[i]? = some y → f x = some y) → l.mapM f = some r
  | [], [], _, _ => rfl
  | a :: l, b :: r, hl, h => by
    have h0 := h 0 a b rfl rfl
    have ht := mapM_all (l := l) (r := r) (by simpa using hl) (fun i x y hx hy => h (i + 1) x y (by simpa using hx) (by simpa using hy))
    simp [List.mapM_cons, h0, ht]
  | [], _ :: _, h, _ => by simp at h
  | _ :: _, [], h, _ => by simp at h

theorem cell_later (hb : ∀ b, b < W.heap.size → W'.heap[b]? = W.heap[b]?) {a : Addr} {v : Value} (h : W.cell? a = some v) : W'.cell? a = some v := by
  have : a.block < W.heap.size := by
    rcases Nat.lt_or_ge a.block W.heap.size with h' | h'
    · exact h'
    · simp [World.cell?, Array.getElem?_eq_none h'] at h
  unfold World.cell? at h ⊢
  rw [hb _ this]
  exact h

theorem cells_later (hb : ∀ b, b < W.heap.size → W'.heap[b]? = W.heap[b]?) {a : Addr} {n : Nat} {l : List Value} (h : W.cells? 0 a n = some l) : W'.cells? 0 a n = some l := by
  unfold World.cells? at h ⊢
  rw [if_pos (Nat.zero_le _)] at h ⊢
  obtain ⟨h1, h2⟩ := mapM_some h
  refine mapM_all h1 (fun i x y hx hy => ?_)
  obtain ⟨z, hz, hzz⟩ := h2 i x hx
  rw [hy] at hz
  cases hz
  exact cell_later hb hzz

theorem trod_later (hS : ∀ t ∈ S, plainAt P S t = true) (hb : ∀ b, b < W.heap.size → W'.heap[b]? = W.heap[b]?) : ∀ (fuel t : Nat) (cs : List Value) (x : DataW H × List MemPlace), t ∈ S →
    DataW.trod enc P W 0 (fun _ => true) held fuel t cs = some x → (∀ p ∈ x.2, sp' p.block = true) → DataW.trod enc P W' 0 sp' held fuel t cs = some x := by
  intro fuel
  induction fuel with
  | zero => intro t cs x _ h; simp [DataW.trod] at h
  | succ fuel ih =>
    intro t cs x ht h hsp
    have hp := hS t ht
    unfold plainAt at hp
    split at hp
    · rename_i hu
      obtain ⟨b, rfl, rfl⟩ := DataW.trod_bool hu h
      simp [DataW.trod, hu]
    · rename_i k hu
      obtain ⟨n, rfl, rfl, hw⟩ := DataW.trod_int hu h
      simp [DataW.trod, hu, hw]
    · rename_i hu
      obtain ⟨s, rfl, rfl, hw⟩ := DataW.trod_string hu h
      simp [DataW.trod, hu, hw]
    · rename_i e hu
      simp only [Bool.and_eq_true, beq_iff_eq, bne_iff_ne, ne_eq] at hp
      obtain ⟨⟨hp1, hp2⟩, hp3⟩ := hp
      have he : e ∈ S := by simpa using hp2
      rcases DataW.trod_slice hu h with ⟨rfl, rfl⟩ | ⟨a, len, cap, elems, rest, n, hf, rfl, rfl, hba, hle, hmx, hlen, hel, hrest, _⟩
      · simp [DataW.trod, hu]
      · cases hf
        obtain ⟨hr1, hr2⟩ := hrest rfl
        have hin : ∀ y, y ∈ elems ++ rest → ∀ p ∈ y.2, sp' p.block = true := fun y hy p hpp =>
          hsp p (List.mem_append_right _ (List.mem_flatMap.2 ⟨y, hy, hpp⟩))
        have one : ∀ k y, (W.cells? 0 (a.add (k * P.cellsOf e)) (P.cellsOf e)).bind (DataW.trod enc P W 0 (fun _ => true) held fuel e) = some y → y ∈ elems ++ rest →
            (W'.cells? 0 (a.add (k * P.cellsOf e)) (P.cellsOf e)).bind (DataW.trod enc P W' 0 sp' held fuel e) = some y := by
          intro k y hk hy
          obtain ⟨l, hl, htr⟩ := bind_some' hk
          rw [cells_later hb hl]
          exact ih e l y he htr (hin y hy)
        have h1 : (List.range len).mapM (fun i => (W'.cells? 0 (a.add (i * P.cellsOf e)) (P.cellsOf e)).bind (DataW.trod enc P W' 0 sp' held fuel e)) = some elems := by
          refine mapM_all (by simp [hlen]) (fun i k y hi hy => ?_)
          obtain ⟨hlt, rfl⟩ : i < len ∧ i = k := by
            simp only [List.getElem?_eq_some_iff, List.length_range, List.getElem_range] at hi
            exact ⟨hi.1, hi.2⟩
          exact one i y (by rw [hel i hlt, hy]) (List.mem_append_left _ (List.mem_of_getElem? hy))
        have h2 : (List.range (cap - len)).mapM (fun j => (W'.cells? 0 (a.add ((len + j) * P.cellsOf e)) (P.cellsOf e)).bind (DataW.trod enc P W' 0 sp' held fuel e)) = some rest := by
          refine mapM_all (by simp [hr1]) (fun i k y hi hy => ?_)
          obtain ⟨hlt, rfl⟩ : i < cap - len ∧ i = k := by
            simp only [List.getElem?_eq_some_iff, List.length_range, List.getElem_range] at hi
            exact ⟨hi.1, hi.2⟩
          exact one (len + i) y (by rw [hr2 i hlt, hy]) (List.mem_append_right _ (List.mem_of_getElem? hy))
        have hif : (if sp' a.block = true then (List.range (cap - len)).mapM (fun j => (W'.cells? 0 (a.add ((len + j) * P.cellsOf e)) (P.cellsOf e)).bind (DataW.trod enc P W' 0 sp' held fuel e)) else some []) = some rest := by
          by_cases hs : sp' a.block = true
          · rw [if_pos hs, h2]
          · rw [if_neg hs]
            have hnil : rest = [] := by
              apply Classical.byContradiction
              intro hrr
              refine hs ?_
              have hlen0 : rest.length ≠ 0 := fun h0 => hrr (List.length_eq_zero_iff.1 h0)
              have hpos : 0 < (elems.length + rest.length) * P.cellsOf e := Nat.mul_pos (by omega) (by omega)
              have := hsp (.cell a.block a.off) (List.mem_append_left _ (List.mem_map.2 ⟨0, List.mem_range.2 hpos, rfl⟩))
              simpa [MemPlace.block] using this
            rw [hnil]
        simp only [DataW.trod, hu]
        rw [if_pos ⟨hba, hle, hmx⟩, h1]
        simp only [Option.bind_some, hif, Option.map_some]
    · rename_i fs hu
      obtain ⟨xs, n, hf, rfl, hcl, hxl, hall⟩ := DataW.trod_struct hu h
      cases hf
      have hmem : ∀ (fs : List Field) (k n : Nat), contig P S k fs n = true → ∀ f ∈ fs, f.type ∈ S := by
        intro fs
        induction fs with
        | nil => intro _ _ _ f hf; cases hf
        | cons f0 fs ih2 =>
          intro k n hc f hf
          simp only [contig, Bool.and_eq_true] at hc
          rcases List.mem_cons.1 hf with rfl | hf
          · simpa using hc.1.2
          · exact ih2 _ _ hc.2 f hf
      have h1 : fs.toList.mapM (fun f => DataW.trod enc P W' 0 sp' held fuel f.type ((cs.drop f.offset).take (P.cellsOf f.type))) = some xs := by
        refine mapM_all (by simp [hxl]) (fun i f y hf hy => ?_)
        have h1 := hall i f (by simpa using hf)
        rw [hy] at h1
        exact ih f.type _ y (hmem _ _ _ hp f (List.mem_of_getElem? hf)) h1 (fun p hpp => hsp p (List.mem_flatMap.2 ⟨y, List.mem_of_getElem? hy, hpp⟩))
      exact ChangeShapes.trod_struct_mk hu hcl h1
    · cases hp

end
end Go.Proofs.YtdhgdpokdhjanaaGreat.Abs
/- From what the abstract machine answers to what the row asks of a law. -/
namespace Go.Proofs.YtdhgdpokdhjanaaGreat.Abs
open Go Go.RowKit

section
variable {P : Program} {S : List Nat} {fm : Nat → Nat} {W W' : World} {H : Type} {enc : TypeId × Value → H}

theorem trodAll_rep (hS : ∀ t ∈ S, plainAt P S t = true) {sp : Nat → Bool} {held : Bool} : ∀ {ts : List TypeId} {vs : List Value} {ds : List (DataW H)} {ps : List MemPlace}, (∀ t ∈ ts, t ∈ S) →
    DataW.TrodAll enc P W 0 sp held ts vs ds ps → ∃ cs, RepL fm (Gh.first W) 0 cs (vs.flatMap fun v => v.cells.toList) ∧ cs = dcellsL ds
  | [], [], [], _, _, _ => ⟨[], .nil, rfl⟩
  | t :: ts, v :: vs, d :: ds, ps, hts, h => by
    obtain ⟨p, q, ⟨fuel, h1⟩, h2, rfl⟩ := h
    obtain ⟨cs, q1, rfl⟩ := trodAll_rep hS (fun t ht => hts t (by simp [ht])) h2
    exact ⟨_, ((trod_rep (fm := fm) hS fuel t _ _ (hts t (by simp)) h1).1).append q1, rfl⟩
  | [], _ :: _, _, _, _, h => by simp [DataW.TrodAll] at h
  | _ :: _, [], _, _, _, h => by simp [DataW.TrodAll] at h
  | [], [], _ :: _, _, _, h => by simp [DataW.TrodAll] at h
  | _ :: _, _ :: _, [], _, _, h => by simp [DataW.TrodAll] at h

theorem trodAll_later (hS : ∀ t ∈ S, plainAt P S t = true) (hb : ∀ b, b < W.heap.size → W'.heap[b]? = W.heap[b]?) {sp' : Nat → Bool} {held : Bool} : ∀ {ts : List TypeId} {vs : List Value} {ds : List (DataW H)} {ps : List MemPlace}, (∀ t ∈ ts, t ∈ S) →
    DataW.TrodAll enc P W 0 (fun _ => true) held ts vs ds ps → (∀ p ∈ ps, sp' p.block = true) → DataW.TrodAll enc P W' 0 sp' held ts vs ds ps
  | [], [], [], _, _, h, _ => h
  | t :: ts, v :: vs, d :: ds, ps, hts, h, hp => by
    obtain ⟨p, q, ⟨fuel, h1⟩, h2, rfl⟩ := h
    exact ⟨p, q, ⟨fuel, trod_later hS hb fuel t _ _ (hts t (by simp)) h1 (fun x hx => hp x (List.mem_append_left _ hx))⟩,
      trodAll_later hS hb (fun t ht => hts t (by simp [ht])) h2 (fun x hx => hp x (List.mem_append_right _ hx)), rfl⟩
  | [], _ :: _, _, _, _, h, _ => by simp [DataW.TrodAll] at h
  | _ :: _, [], _, _, _, h, _ => by simp [DataW.TrodAll] at h
  | [], [], _ :: _, _, _, h, _ => by simp [DataW.TrodAll] at h
  | _ :: _, _ :: _, [], _, _, h, _ => by simp [DataW.TrodAll] at h

/-- 'post_of_same', the frozen places asked for where something came in alone. -/
theorem post_same {f : Func} {s : ChangeSpec} {apart fresh handsOn again : Bool} {args : Array Value} {v : Value} {ds gs : List (DataW H)} {before : List MemPlace}
    (hW : DataW.Whole enc P f.params.toList s.vars apart W args.toList ds gs before)
    (hres : ∀ (b : Nat) (sp : Nat → Bool) (hd : Bool), DataW.TrodAll enc P W' b sp hd f.resultTypes.toList (v.resultList f.resultTypes.size) (s.fn H (ds ++ gs)).results [])
    (hargs : ∀ sp : Nat → Bool, (∀ p ∈ before, sp p.block = true) → DataW.TrodAll enc P W' 0 sp true f.params.toList args.toList (s.fn H (ds ++ gs)).args before)
    (hvars : ∀ sp : Nat → Bool, (∀ p ∈ before, sp p.block = true) → DataW.TrodVars enc P W' sp s.vars (s.fn H (ds ++ gs)).vars [])
    (hk : W.keptBut W' (· ∈ before)) (hfz : ∀ b off, b < W.heap.size → W'.frozen? ⟨b, off, none⟩ = W.frozen? ⟨b, off, none⟩)
    (hok : ∀ (j : Nat) (t : TypeId) (r : Value), f.resultTypes[j]? = some t → (v.resultList f.resultTypes.size)[j]? = some r → Value.okWide P W' .any 0 t r) :
    s.post enc P f apart fresh handsOn again W args v W' := by
  have hold : ∀ p ∈ before, (fun b => decide (b < W.heap.size)) p.block = true := fun p hp => by simpa using hW.lt p hp
  refine ⟨ds, gs, before, [], before, [], hW, hres _ _ _, hargs _ hold, hvars _ hold, World.keptBut_mono (fun p hp => ⟨hp, .inr (.inl hp)⟩) hk, fun _ => ?_⟩
  have hlt := hW.lt
  obtain ⟨_, _, _, _, _, hz, hn⟩ := hW
  refine ⟨hok, _, _, ([] ++ before) ++ [], ⟨[] ++ before, [], ChangeShapes.trodAll_append (hargs _ (fun _ _ => rfl)) (hres _ _ _), hvars _ (fun _ _ => rfl), rfl, ?_, ?_⟩, ?_⟩
  · intro b off hp
    have hp' : MemPlace.cell b off ∈ before := by simpa using hp
    rw [hfz b off (by simpa [MemPlace.block] using hlt _ hp')]
    exact hz b off hp'
  · intro ha
    simpa using hn ha
  · intro p hp _
    simpa using hp

end
end Go.Proofs.YtdhgdpokdhjanaaGreat.Abs
/- The arguments of a law, and its whole contract. -/
namespace Go.Proofs.YtdhgdpokdhjanaaGreat.Abs
open Go Go.RowKit

section
variable {P : Program} {S : List Nat} {fm : Nat → Nat} {W W' : World} {H : Type} {enc : TypeId × Value → H} {sp : Nat → Bool} {held : Bool} {C : Cfg}

/-- A struct that comes in. -/
theorem arg_struct (hS : ∀ t ∈ S, plainAt P S t = true) {t base : Nat} {fs : Array Field} {v : Value} {d : DataW H} {p : List MemPlace} (ht : t ∈ S) (hu : P.underlying t = some (.struct fs))
    (hok : Value.okWide P W .any base t v) (h : DataW.Trod enc P W 0 sp held t v d p) : Rep fm (Gh.first W) 0 (.agg (dcells d)) v := by
  unfold Value.okWide at hok
  rw [hu] at hok
  obtain ⟨cs, rfl, _, _⟩ := hok
  obtain ⟨fuel, h⟩ := h
  have := (trod_rep (fm := fm) hS fuel t _ _ ht h).1
  have e : (Value.agg cs).cells.toList = cs.toList := rfl
  rw [e] at this
  have h2 := Rep.agg (dcells d) cs.toList this
  simpa using h2

/-- What is left of the world behind a call from plain data. -/
theorem first_kept {g' : Gh} (h : Kept (Gh.first W) g' W W') : W'.os = W.os ∧ W'.output = W.output ∧ ∀ b, b < W.heap.size → W'.heap[b]? = W.heap[b]? :=
  ⟨h.os, h.out, fun b hb => (h.blk b false (by simp [Gh.first, hb])).2⟩

theorem keptBut_of {may : MemPlace → Prop} (h1 : W'.os = W.os) (h2 : W'.output = W.output) (h3 : ∀ b, b < W.heap.size → W'.heap[b]? = W.heap[b]?) : W.keptBut W' may := by
  refine ⟨h1, h2, fun i hi => ?_⟩
  rw [h3 i hi]
  split <;> simp_all

theorem frozen_of (h3 : ∀ b, b < W.heap.size → W'.heap[b]? = W.heap[b]?) : ∀ b off, b < W.heap.size → W'.frozen? ⟨b, off, none⟩ = W.frozen? ⟨b, off, none⟩ := by
  intro b off hb
  simp only [World.frozen?, h3 b hb]

/-- THE WHOLE CONTRACT OF A LAW over plain data: the abstract machine answers true. -/
theorem law_calls (hC : Sound P fm C) {f : Nat} {fn : Func} {s : ChangeSpec} {apart fresh handsOn again : Bool} {args : Array Value} {ds gs : List (DataW H)} {before : List MemPlace} {as : List AVal} {tb : Nat}
    (hS : ∀ t ∈ S, plainAt P S t = true) (hts : ∀ t ∈ fn.params.toList, t ∈ S) (hW : DataW.Whole enc P fn.params.toList s.vars apart W args.toList ds gs before) (hvars : s.vars = [])
    (hfn : s.fn H ds = { results := [.lit (.bool true)], args := ds }) (hr : fn.resultTypes = #[tb]) (htb : P.underlying tb = some .bool)
    (hargs : RepL fm (Gh.first W) 0 as args.toList) {s' : ASt} (h : Call C f as ⟨0, []⟩ = some (.bool true, s')) :
    Calls P (fm f) args W fun e W' => ∃ v, e = .returned v ∧ s.post enc P fn apart fresh handsOn again W args v W' := by
  refine (Call_calls hC h Sim.first hargs).mono ?_
  rintro e W' ⟨cv, g', rfl, _, _, _, hk, hres⟩
  have hcv : cv = .bool true := Rep.bool_inv hres
  subst hcv
  obtain ⟨k1, k2, k3⟩ := first_kept hk
  have hW' := hW
  obtain ⟨p, q, hA, hV, rfl, hfz, hnd⟩ := hW
  rw [hvars] at hV
  obtain ⟨rfl, rfl⟩ : gs = [] ∧ q = [] := by
    cases gs with
    | nil => exact ⟨rfl, hV⟩
    | cons _ _ => exact hV.elim
  simp only [List.append_nil] at hW'
  refine ⟨_, rfl, post_same hW' ?_ ?_ ?_ (keptBut_of k1 k2 k3) (frozen_of k3) ?_⟩
  · intro b sp hd
    rw [List.append_nil, hfn, hr]
    exact trodAll_cons_mk (shut_bool htb true) rfl
  · intro sp hsp
    rw [List.append_nil, hfn]
    exact trodAll_later hS k3 hts hA hsp
  · intro sp hsp
    rw [List.append_nil, hfn, hvars]
    rfl
  · exact ok_one hr rfl (okWide_bool_mk htb true)

end
end Go.Proofs.YtdhgdpokdhjanaaGreat.Abs
