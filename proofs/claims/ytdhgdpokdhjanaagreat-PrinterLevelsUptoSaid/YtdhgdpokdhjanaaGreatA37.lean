/- A function of values alone, from the empty state; entries of a map in whatever order. -/
import Derived.Test.YtdhgdpokdhjanaaGreatA34
import Derived.Test.YtdhgdpokdhjanaaGreatA24
set_option linter.unusedSimpArgs false
set_option linter.unusedVariables false
namespace Go.Proofs.YtdhgdpokdhjanaaGreat.Abs
open Go

section
variable {P : Program} {fm : Nat → Nat} {nt : Nat} {g g' g'' : Gh} {s s' s'' t : ASt} {A A' A'' B : Frame} {a a' a'' : Act} {w w' w'' : World} {call : CallFn}

theorem pure_ext {f : Nat} {args : List AVal} {v : AVal} (h0 : ∀ (g : Gh) (w : World) (vs : Array Value) (m : Nat), Sim fm ⟨0, []⟩ g w → RepL fm g 0 args vs.toList → CallsIn (FW none) m P f vs w (CallPost fm g w ⟨0, []⟩ ⟨0, []⟩ v))
    (hu : underL 0 args = true) (hS : Sim fm s g w) {vs : Array Value} (hR : RepL fm g s.n args vs.toList) (m : Nat) : CallsIn (FW none) m P f vs w (CallPost fm g w s s v) := by
  have hcs := h0 g.away w vs m hS.away ((hR.lower hu).mono (away_le 0) (Nat.le_refl _))
  refine hcs.mono ?_
  rintro e w1 ⟨cv, g1, rfl, q1, q2, q3, q4, q5⟩
  obtain ⟨p1, p2, p3, p4, p5, p6⟩ := back_sound hS q1 q2 q4
  exact ⟨cv, g.back g1, rfl, p1, p2, Nat.le_refl _, p3, q5.mono p5 (Nat.zero_le _) p6⟩

def ksOf (es : List (Int × AVal)) : List AVal := es.map fun p => .int .i64 p.1
def vsOf (es : List (Int × AVal)) : List AVal := es.map (·.2)

theorem find_int (a : Int) : ∀ es : List (Int × AVal), Abs.find .int (.int .i64 a) (ksOf es) (vsOf es) = some ((es.find? (fun p => decide (a = p.1))).map (·.2))
  | [] => rfl
  | p :: es => by
    have ih := find_int a es
    simp only [ksOf, vsOf, List.map_cons, Abs.find, keq, if_true, List.find?_cons] at ih ⊢
    by_cases h : a = p.1
    · simp [h]
    · simp only [h, decide_false]
      exact ih

theorem find_other {kt : KT} {k : AVal} (h : ∀ n : Int, keq kt k (.int .i64 n) = none) : ∀ es : List (Int × AVal), Abs.find kt k (ksOf es) (vsOf es) = if es = [] then some none else none
  | [] => by simp [ksOf, vsOf, Abs.find]
  | p :: es => by simp [ksOf, vsOf, Abs.find, h]

theorem fst_inj : ∀ {l : List (Int × AVal)}, (l.map (·.1)).Nodup → ∀ {p q : Int × AVal}, p ∈ l → q ∈ l → p.1 = q.1 → p = q
  | x :: l, h, p, q, hp, hq, e => by
    simp only [List.map_cons, List.nodup_cons, List.mem_map, not_exists, not_and] at h
    rcases List.mem_cons.1 hp with hp1 | hp1
    · rcases List.mem_cons.1 hq with hq1 | hq1
      · rw [hp1, hq1]
      · exact absurd (by rw [← e, hp1]) (h.1 q hq1)
    · rcases List.mem_cons.1 hq with hq1 | hq1
      · exact absurd (by rw [e, hq1]) (h.1 p hp1)
      · exact fst_inj h.2 hp1 hq1 e

theorem find_perm {es fs : List (Int × AVal)} (hp : es.Perm fs) (hn : (es.map (·.1)).Nodup) (kt : KT) (k : AVal) : Abs.find kt k (ksOf es) (vsOf es) = Abs.find kt k (ksOf fs) (vsOf fs) := by
  have other : (∀ n : Int, keq kt k (.int .i64 n) = none) → Abs.find kt k (ksOf es) (vsOf es) = Abs.find kt k (ksOf fs) (vsOf fs) := fun h => by
    rw [find_other h, find_other h]
    have : es = [] ↔ fs = [] := by
      rw [← List.length_eq_zero_iff, ← List.length_eq_zero_iff, hp.length_eq]
    by_cases h0 : es = []
    · rw [if_pos h0, if_pos (this.1 h0)]
    · rw [if_neg h0, if_neg (fun e => h0 (this.2 e))]
  cases kt with
  | str => exact other (fun n => by cases k <;> rfl)
  | bool => exact other (fun n => by cases k <;> rfl)
  | int =>
    cases k
    case int j a =>
      by_cases hj : j = .i64
      · subst hj
        rw [find_int, find_int]
        congr 2
        cases h1 : es.find? (fun p => decide (a = p.1)) with
        | none =>
          symm
          rw [List.find?_eq_none] at h1 ⊢
          exact fun x hx => h1 x (hp.mem_iff.2 hx)
        | some p =>
          have hm := List.mem_of_find?_eq_some h1
          have hq := List.find?_some h1
          simp only [decide_eq_true_eq] at hq
          cases h2 : fs.find? (fun p => decide (a = p.1)) with
          | none =>
            rw [List.find?_eq_none] at h2
            exact absurd (by simpa using hq) (h2 p (hp.mem_iff.1 hm))
          | some q =>
            have hm2 := hp.mem_iff.2 (List.mem_of_find?_eq_some h2)
            have hq2 := List.find?_some h2
            simp only [decide_eq_true_eq] at hq2
            have : p = q := fst_inj hn hm hm2 (hq.symm.trans hq2)
            rw [this]
      · exact other (fun n => by simp [keq, hj])
    all_goals exact other (fun n => rfl)

theorem insertAt_new {k : Int} {v : AVal} : ∀ {es : List (Int × AVal)}, k ∉ es.map (·.1) → insertAt .int (.int .i64 k) v (ksOf es) (vsOf es) = some (ksOf (es ++ [(k, v)]), vsOf (es ++ [(k, v)]))
  | [], _ => rfl
  | p :: es, h => by
    simp only [List.map_cons, List.mem_cons, not_or] at h
    have ih := insertAt_new (v := v) h.2
    simp only [ksOf, vsOf, List.map_cons, List.cons_append, insertAt, keq, if_true, h.1, decide_false] at ih ⊢
    rw [ih]
    rfl

/-! ### A region that lays a map's entries in whatever order -/

def AOper.plain (o : AOper) : Bool := match o.op with
  | .makeMap | .insert _ _ _ _ => false
  | op => op.calm && o.guard.isNone && o.dst.isSome

/-- What is read is written ahead. -/
def readsBound (aos : List AOper) (ops : List Oper) : Bool :=
  (List.zip aos ops).all fun (x, o) => x.reads.all fun d => (aos.zipIdx).all fun (y, j) => y.dst != some d || o.after.toList.any fun e => Region.binds .any e && e.on == j

/-- The entry that an insertion lays. -/
def entryOf (F : Frame) (m : Nat) (o : AOper) : Option (Int × AVal) := match o.op with
  | .insert .int (.tmp k) (.val (.int .i64 n)) (.tmp d) => if k = m ∧ o.guard = none ∧ o.dst = none then some (n, (F.get d).strip) else none
  | _ => none

structure Opens (call : CallFn) (aos : List AOper) (ops : Array Oper) (A F : Frame) (n : Nat) (os : List AObj) (m : Nat) : Prop where
  bound : readsBound aos ops.toList = true
  len : aos.length = ops.size
  first : ∃ o, aos[0]? = some o ∧ o.op = .makeMap ∧ o.dst = some m ∧ o.guard = none
  kinds : ∀ (i : Nat) (o : AOper), aos[i]? = some o → i = 0 ∨ o.plain = true ∨ (entryOf F m o).isSome = true
  slot : F.get m = .map n
  base : ∀ d, (∀ (i : Nat) (o : AOper), aos[i]? = some o → o.dst ≠ some d) → A.get d = F.get d
  size : os.length = n
  runs0 : ∀ (i : Nat) (o : AOper), aos[i]? = some o → o.plain = true → ∀ d, o.dst = some d → aop call o.op F ⟨n, os⟩ = some (F.get d, F, ⟨n, os⟩)
  runs : ∀ (ks vs : List AVal) (i : Nat) (o : AOper), aos[i]? = some o → o.plain = true → ∀ d, o.dst = some d → aop call o.op F ⟨n + 1, .map ks vs :: os⟩ = some (F.get d, F, ⟨n + 1, .map ks vs :: os⟩)
  under : ∀ (i : Nat) (o : AOper) (p : Int × AVal), aos[i]? = some o → entryOf F m o = some p → p.2.under (n + 1) = true
  keys : (aos.filterMap fun o => (entryOf F m o).map (·.1)).Nodup

/-- How far such a region has come. -/
structure Laid (aos : List AOper) (F : Frame) (n : Nat) (os : List AObj) (m : Nat) (X : Nat → Prop) (B : Frame) (t : ASt) : Prop where
  frame : ∀ d, (∀ (i : Nat) (o : AOper), aos[i]? = some o → o.dst = some d → X i) → B.get d = F.get d
  none : ¬ X 0 → t = ⟨n, os⟩ ∧ ∀ (i : Nat) (o : AOper), aos[i]? = some o → (entryOf F m o).isSome = true → ¬ X i
  some : X 0 → ∃ is : List Nat, is.Nodup ∧ (∀ i, i ∈ is ↔ X i ∧ ∃ o, aos[i]? = some o ∧ (entryOf F m o).isSome = true) ∧
    t = ⟨n + 1, .map (ksOf (is.filterMap fun i => (aos[i]?).bind (entryOf F m))) (vsOf (is.filterMap fun i => (aos[i]?).bind (entryOf F m))) :: os⟩

variable {aos : List AOper} {ops : Array Oper} {F : Frame} {n m : Nat} {os : List AObj}

theorem entry_cases {o : AOper} {p : Int × AVal} (h : entryOf F m o = some p) : ∃ d, o.op = .insert .int (.tmp m) (.val (.int .i64 p.1)) (.tmp d) ∧ o.guard = none ∧ o.dst = none ∧ p.2 = (F.get d).strip := by
  unfold entryOf at h
  split at h
  · rename_i k nn d hop
    split at h
    · rename_i hc
      cases h
      obtain ⟨rfl, h2, h3⟩ := hc
      exact ⟨d, hop, h2, h3, rfl⟩
    · cases h
  · cases h

theorem entry_plain {o : AOper} {p : Int × AVal} (h : entryOf F m o = some p) : o.plain = false := by
  obtain ⟨d, h1, _⟩ := entry_cases h
  simp [AOper.plain, h1]

theorem filterMap_nodup {is : List Nat} {f : Nat → Option (Int × AVal)} (hn : is.Nodup) (hf : ∀ i ∈ is, ∀ j ∈ is, ∀ p q, f i = some p → f j = some q → p.1 = q.1 → i = j) : ((is.filterMap f).map (·.1)).Nodup := by
  induction is with
  | nil => simp
  | cons i is ih =>
    rw [List.nodup_cons] at hn
    have ih := ih hn.2 (fun a ha b hb => hf a (by simp [ha]) b (by simp [hb]))
    cases hfi : f i with
    | none => rw [List.filterMap_cons_none hfi]; exact ih
    | some p =>
      rw [List.filterMap_cons_some hfi, List.map_cons, List.nodup_cons]
      refine ⟨fun hm => ?_, ih⟩
      obtain ⟨q, hq, e⟩ := List.mem_map.1 hm
      obtain ⟨j, hj, hfj⟩ := List.mem_filterMap.1 hq
      have := hf i (by simp) j (by simp [hj]) p q hfi hfj e.symm
      subst this
      exact hn.1 hj

/-- The entries' keys stand apart. -/
theorem keys_apart {aos : List AOper} (h : (aos.filterMap fun o => (entryOf F m o).map (·.1)).Nodup) : ∀ (i j : Nat) (x y : AOper) (p q : Int × AVal), aos[i]? = some x → aos[j]? = some y → entryOf F m x = some p → entryOf F m y = some q → p.1 = q.1 → i = j := by
  induction aos with
  | nil => intro i j x y p q hx; simp at hx
  | cons o aos ih =>
    have hmem : ∀ (i : Nat) (x : AOper) (p : Int × AVal), aos[i]? = some x → entryOf F m x = some p → p.1 ∈ aos.filterMap (fun o => (entryOf F m o).map (·.1)) := fun i x p hx hp =>
      List.mem_filterMap.2 ⟨x, List.mem_of_getElem? hx, by simp [hp]⟩
    intro i j x y p q hx hy hp hq e
    cases ho : (entryOf F m o).map (·.1) with
    | none =>
      rw [List.filterMap_cons_none (f := fun o => (entryOf F m o).map (·.1)) ho] at h
      have ho' : entryOf F m o = none := by cases hh : entryOf F m o <;> simp [hh] at ho ⊢
      cases i with
      | zero => simp at hx; subst hx; rw [ho'] at hp; cases hp
      | succ i => cases j with
        | zero => simp at hy; subst hy; rw [ho'] at hq; cases hq
        | succ j => rw [ih h i j x y p q (by simpa using hx) (by simpa using hy) hp hq e]
    | some k =>
      rw [List.filterMap_cons_some (f := fun o => (entryOf F m o).map (·.1)) ho, List.nodup_cons] at h
      cases i with
      | zero =>
        simp at hx; subst hx
        rw [hp] at ho
        simp at ho
        cases j with
        | zero => rfl
        | succ j => exact absurd (by rw [← ho, e]; exact hmem j y q (by simpa using hy) hq) h.1
      | succ i => cases j with
        | zero =>
          simp at hy; subst hy
          rw [hq] at ho
          simp at ho
          exact absurd (by rw [← ho, ← e]; exact hmem i x p (by simpa using hx) hp) h.1
        | succ j => rw [ih h.2 i j x y p q (by simpa using hx) (by simpa using hy) hp hq e]

theorem opens_step (hO : Opens call aos ops A F n os m) {X : Nat → Prop} {B : Frame} {t : ASt} {i : Nat} {x : AOper} {o : Oper} (hL : Laid aos F n os m X B t) (hX : ¬ X i) (hx : aos[i]? = some x) (ho : ops[i]? = some o) (hb : bindsDone o X) :
    ∃ B' t', OperStep call x B t B' t' ∧ Laid aos F n os m (fun k => X k ∨ k = i) B' t' := by
  have hread : ∀ d ∈ x.reads, F.get d = B.get d := by
    intro d hd
    refine (hL.frame d (fun j y hy hyd => ?_)).symm
    have h1 := hO.bound
    unfold readsBound at h1
    rw [List.all_eq_true] at h1
    have h2 := h1 (x, o) (by
      rw [List.mem_iff_getElem?]
      exact ⟨i, by rw [List.getElem?_zip_eq_some]; exact ⟨hx, by simpa using ho⟩⟩)
    rw [List.all_eq_true] at h2
    have h3 := h2 d hd
    rw [List.all_eq_true] at h3
    have h4 := h3 (y, j) (by
      rw [List.mem_iff_getElem?]
      exact ⟨j, by rw [List.getElem?_zipIdx, hy]; simp⟩)
    simp only [hyd, bne_self_eq_false, Bool.false_or, List.any_eq_true, Bool.and_eq_true, beq_iff_eq] at h4
    obtain ⟨e, he, hbe, hej⟩ := h4
    rw [← hej]
    exact hb e (by simpa using he) hbe
  have frame' : ∀ (d : Nat), x.dst = some d → ∀ k, (∀ (j : Nat) (y : AOper), aos[j]? = some y → y.dst = some k → X j ∨ j = i) → (B.put d (F.get d)).get k = F.get k := by
    intro d hd k hk
    rw [get_put']
    by_cases e : d = k
    · subst e; rw [if_pos rfl]
    · rw [if_neg e]
      refine hL.frame k (fun j y hy hyk => (hk j y hy hyk).resolve_right (fun hji => ?_))
      subst hji
      rw [hx] at hy
      cases hy
      rw [hd] at hyk
      cases hyk
      exact e rfl
  have entry_ne : ∀ (j : Nat) (y : AOper), aos[j]? = some y → (entryOf F m y).isSome = true → x.plain = true → j ≠ i := by
    intro j y hy he hp e
    subst e
    rw [hx] at hy
    cases hy
    obtain ⟨p, hp2⟩ := Option.isSome_iff_exists.1 he
    rw [entry_plain hp2] at hp
    cases hp
  obtain ⟨x0, hx0, hx0op, hx0dst, hx0g⟩ := hO.first
  by_cases hpl : x.plain = true
  · have hi0 : i ≠ 0 := fun e => by
      subst e
      rw [hx] at hx0
      cases hx0
      simp [AOper.plain, hx0op] at hpl
    have hpl2 : x.op.calm = true ∧ x.guard = none ∧ ∃ d, x.dst = some d := by
      unfold AOper.plain at hpl
      split at hpl
      · cases hpl
      · cases hpl
      · simp only [Bool.and_eq_true, Option.isNone_iff_eq_none, Option.isSome_iff_exists] at hpl
        exact ⟨hpl.1.1, hpl.1.2, hpl.2⟩
    obtain ⟨hcalm, hg, d, hd⟩ := hpl2
    have hstep : ∀ s, aop call x.op F s = some (F.get d, F, s) → OperStep call x B s (B.put d (F.get d)) s := fun s hs => by
      have := (calm_congr hcalm (fun k hk => hread k (List.mem_append_left _ hk)) hs).2
      exact ⟨true, by rw [hg]; rfl, by simp only [if_true]; exact ⟨_, _, this, by rw [hd]; rfl⟩⟩
    by_cases h0 : X 0
    · obtain ⟨is, q1, q2, rfl⟩ := hL.some h0
      refine ⟨_, _, hstep _ (hO.runs _ _ i x hx hpl d hd), ⟨frame' d hd, fun hn => absurd (.inl h0) hn, fun _ => ⟨is, q1, fun k => ?_, rfl⟩⟩⟩
      rw [q2]
      constructor
      · rintro ⟨h1, h2⟩; exact ⟨.inl h1, h2⟩
      · rintro ⟨h1 | h1, y, hy, he⟩
        · exact ⟨h1, y, hy, he⟩
        · exact absurd h1 (entry_ne k y hy he hpl)
    · obtain ⟨rfl, q2⟩ := hL.none h0
      refine ⟨_, _, hstep _ (hO.runs0 i x hx hpl d hd), ⟨frame' d hd, fun _ => ⟨rfl, fun k y hy he hk => ?_⟩, fun hn => absurd (hn.resolve_right (Ne.symm hi0)) h0⟩⟩
      rcases hk with hk | hk
      · exact q2 k y hy he hk
      · exact entry_ne k y hy he hpl hk
  by_cases hent : (entryOf F m x).isSome = true
  · obtain ⟨p, hp⟩ := Option.isSome_iff_exists.1 hent
    obtain ⟨d, hop, hg, hdst, hp2⟩ := entry_cases hp
    have hi0 : i ≠ 0 := fun e => by
      subst e
      rw [hx] at hx0
      cases hx0
      rw [hx0op] at hop
      cases hop
    have hm : B.get m = .map n := by
      rw [← hread m (by simp [AOper.reads, hop, AOp.reads, Opd.slots]), hO.slot]
    have hdv : (B.get d).strip = p.2 := by
      rw [← hread d (by simp [AOper.reads, hop, AOp.reads, Opd.slots]), hp2]
    have h0 : X 0 := by
      have h1 := hL.frame
      refine Classical.byContradiction fun h0 => ?_
      have hmr : m ∈ x.reads := by simp [AOper.reads, hop, AOp.reads, Opd.slots]
      have h1 := hO.bound
      unfold readsBound at h1
      rw [List.all_eq_true] at h1
      have h2 := h1 (x, o) (by
        rw [List.mem_iff_getElem?]
        exact ⟨i, by rw [List.getElem?_zip_eq_some]; exact ⟨hx, by simpa using ho⟩⟩)
      rw [List.all_eq_true] at h2
      have h3 := h2 m hmr
      rw [List.all_eq_true] at h3
      have h4 := h3 (x0, 0) (by
        rw [List.mem_iff_getElem?]
        exact ⟨0, by rw [List.getElem?_zipIdx, hx0]; simp⟩)
      simp only [hx0dst, bne_self_eq_false, Bool.false_or, List.any_eq_true, Bool.and_eq_true, beq_iff_eq] at h4
      obtain ⟨e, he, hbe, hej⟩ := h4
      exact h0 (by rw [← hej]; exact hb e (by simpa using he) hbe)
    obtain ⟨is, q1, q2, rfl⟩ := hL.some h0
    have hget : (⟨n + 1, .map (ksOf (is.filterMap fun i => (aos[i]?).bind (entryOf F m))) (vsOf (is.filterMap fun i => (aos[i]?).bind (entryOf F m))) :: os⟩ : ASt).get n = some (.map (ksOf (is.filterMap fun i => (aos[i]?).bind (entryOf F m))) (vsOf (is.filterMap fun i => (aos[i]?).bind (entryOf F m)))) := by
      simp [ASt.get, getL]
    have hnew : p.1 ∉ (is.filterMap fun i => (aos[i]?).bind (entryOf F m)).map (·.1) := fun hmem => by
      obtain ⟨q, hq, e⟩ := List.mem_map.1 hmem
      obtain ⟨j, hj, hfj⟩ := List.mem_filterMap.1 hq
      obtain ⟨y, hy, hfj⟩ := bind_some' hfj
      have := keys_apart hO.keys j i y x q p hy hx hfj hp e
      subst this
      exact hX ((q2 j).1 hj).1
    have hins := insertAt_new (v := p.2) hnew
    have happ : (is.filterMap fun i => (aos[i]?).bind (entryOf F m)) ++ [(p.1, p.2)] = (is ++ [i]).filterMap fun i => (aos[i]?).bind (entryOf F m) := by
      rw [List.filterMap_append]
      simp [hx, hp]
    rw [happ] at hins
    have haop : aop call x.op B ⟨n + 1, .map (ksOf (is.filterMap fun i => (aos[i]?).bind (entryOf F m))) (vsOf (is.filterMap fun i => (aos[i]?).bind (entryOf F m))) :: os⟩ =
        some (.undef, B, ⟨n + 1, .map (ksOf ((is ++ [i]).filterMap fun i => (aos[i]?).bind (entryOf F m))) (vsOf ((is ++ [i]).filterMap fun i => (aos[i]?).bind (entryOf F m))) :: os⟩) := by
      have hm2 : (B.get m).strip = .map n := by rw [hm]; rfl
      rw [hop]
      simp only [aop, Opd.ev, hm2, hget, hdv, hins, Option.bind_eq_bind, Option.bind_some]
      rw [if_pos (by simp [AVal.under, hO.under i x p hx hp])]
      simp [ASt.set, setL]
    refine ⟨B, _, ⟨true, by rw [hg]; rfl, by simp only [if_true]; exact ⟨_, _, haop, by rw [hdst]; rfl⟩⟩, ⟨fun k hk => ?_, fun hn => absurd (.inl h0) hn, fun _ => ⟨is ++ [i], ?_, fun k => ?_, rfl⟩⟩⟩
    · refine hL.frame k (fun j y hy hyk => (hk j y hy hyk).resolve_right (fun hji => ?_))
      subst hji
      rw [hx] at hy
      cases hy
      rw [hdst] at hyk
      cases hyk
    · rw [List.nodup_append]
      refine ⟨q1, by simp, fun a ha b hb e => ?_⟩
      simp only [List.mem_singleton] at hb
      subst hb
      subst e
      exact hX ((q2 a).1 ha).1
    · simp only [List.mem_append, List.mem_singleton, q2]
      constructor
      · rintro (⟨h1, h2⟩ | rfl)
        · exact ⟨.inl h1, h2⟩
        · exact ⟨.inr rfl, x, hx, hent⟩
      · rintro ⟨h1 | rfl, h2⟩
        · exact .inl ⟨h1, h2⟩
        · exact .inr rfl
  rcases hO.kinds i x hx with hi | hi | hi
  · subst hi
    rw [hx] at hx0
    cases hx0
    obtain ⟨rfl, q2⟩ := hL.none hX
    have haop : aop call x.op B ⟨n, os⟩ = some (.map n, B, ⟨n + 1, .map [] [] :: os⟩) := by
      rw [hx0op]
      rfl
    refine ⟨B.put m (F.get m), _, ⟨true, by rw [hx0g]; rfl, by simp only [if_true]; exact ⟨_, _, haop, by rw [hx0dst, hO.slot]; rfl⟩⟩, ⟨frame' m hx0dst, fun hn => absurd (.inr rfl) hn, fun _ => ⟨[], by simp, fun k => ?_, rfl⟩⟩⟩
    simp only [List.not_mem_nil, false_iff, not_and, not_exists]
    rintro (hk | rfl) y hy he
    · exact absurd hk (q2 k y hy he)
    · rw [hx] at hy
      cases hy
      exact hent he
  · exact absurd hi hpl
  · exact absurd hi hent

theorem opens_sound {r : Option Nat} {mm : Nat} (hcall : CallSound P fm call) (hmx : P.follows .mixedOrders = true) (hok : okOpers P fm nt ops aos ops.toList = true) (hO : Opens call aos ops A F n os m)
    (hback : ∀ (k : Nat) (o : Oper), ops[k]? = some o → ∀ e ∈ o.after, Region.binds .any e = true → e.on < k)
    {id : Nat} (hS : Sim fm ⟨n, os⟩ g w) (hF : FrameRep fm g n nt A a.tmps) {Q : Exit → Act → World → Prop}
    (hQ : ∀ (es : List (Int × AVal)) B a' w' g', es.Perm (aos.filterMap (entryOf F m)) → (∀ d, B.get d = F.get d) → RPost fm nt g w ⟨n, os⟩ ⟨n + 1, .map (ksOf es) (vsOf es) :: os⟩ B a a' g' w' → Q .normal a' w') :
    (Code.region id ops true).wpIn (FW r) mm P Q a w := by
  refine draw_inv hcall hmx hok hback (Laid aos F n os m) (fun X B t i x o hL hX hx ho hb => opens_step hO hL hX hx ho hb) hS hF ⟨fun d hd => ?_, fun _ => ⟨rfl, fun _ _ _ _ h => h⟩, fun h => h.elim⟩ ?_
  · exact hO.base d (fun i o ho hod => hd i o ho hod)
  · intro X B t a' w' g' hX hL hp
    have hlt : ∀ (i : Nat) (o : AOper), aos[i]? = some o → X i := fun i o ho => hX i (by rw [← hO.len]; exact (List.getElem?_eq_some_iff.1 ho).1)
    obtain ⟨x0, hx0, _⟩ := hO.first
    obtain ⟨is, q1, q2, rfl⟩ := hL.some (hlt 0 x0 hx0)
    refine hQ _ B a' w' g' ?_ (fun d => hL.frame d (fun i o ho _ => hlt i o ho)) hp
    have hall : (aos.filterMap (entryOf F m)) = (List.range aos.length).filterMap fun i => (aos[i]?).bind (entryOf F m) := by
      have : aos.map some = (List.range aos.length).map fun i => aos[i]? := by
        apply List.ext_getElem?
        intro i
        simp only [List.getElem?_map, List.getElem?_range]
        by_cases h : i < aos.length
        · simp [h]
        · simp [h]
      have h2 : ((List.range aos.length).map fun i => aos[i]?).filterMap (fun o => o.bind (entryOf F m)) = (aos.map some).filterMap (fun o => o.bind (entryOf F m)) := by rw [this]
      rw [List.filterMap_map, List.filterMap_map] at h2
      exact h2.symm
    rw [hall]
    have hfil : ((List.range aos.length).filterMap fun i => (aos[i]?).bind (entryOf F m)) = ((List.range aos.length).filter fun i => ((aos[i]?).bind (entryOf F m)).isSome).filterMap fun i => (aos[i]?).bind (entryOf F m) := by
      rw [List.filterMap_filter]
      congr 1
      funext i
      cases h : (aos[i]?).bind (entryOf F m) <;> simp [h]
    rw [hfil]
    refine List.Perm.filterMap _ ?_
    rw [List.perm_ext_iff_of_nodup q1 ((List.nodup_range).filter _)]
    intro i
    rw [q2, List.mem_filter, List.mem_range]
    constructor
    · rintro ⟨_, y, hy, he⟩
      exact ⟨(List.getElem?_eq_some_iff.1 hy).1, by simp [hy, he]⟩
    · rintro ⟨h1, h2⟩
      obtain ⟨y, hy⟩ : ∃ y, aos[i]? = some y := ⟨aos[i], by simp [h1]⟩
      rw [hy] at h2
      exact ⟨hlt i y hy, y, hy, h2⟩

end
end Go.Proofs.YtdhgdpokdhjanaaGreat.Abs
