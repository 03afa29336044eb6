/- What an instruction reads, and that it depends on nothing else. -/
import Derived.Test.YtdhgdpokdhjanaaGreatA19
set_option linter.unusedSimpArgs false
set_option linter.unusedVariables false
namespace Go.Proofs.YtdhgdpokdhjanaaGreat.Abs
open Go

def Opd.slots : Opd → List Nat
  | .tmp d => [d]
  | _ => []
def optSlots : Option Opd → List Nat
  | some x => x.slots
  | none => []

def AOp.reads : AOp → List Nat
  | .mov x | .take x | .box x | .un _ x | .conv _ x | .fieldAddr _ x | .field _ _ _ x | .extract x _ | .nilCheck x | .len _ x | .load _ _ x => x.slots
  | .pick c a b => c.slots ++ (a.slots ++ b.slots)
  | .alloc _ | .allocB | .makeMap | .bad => []
  | .build _ parts | .buildSlice _ _ parts => parts.flatMap fun p => p.2.2.slots
  | .store _ a v => a.slots ++ v.slots
  | .bin _ _ x y | .indexAddr _ x y | .index x y | .append _ x y | .minmax _ x y => x.slots ++ y.slots
  | .slice _ _ x lo hi => x.slots ++ (optSlots lo ++ optSlots hi)
  | .insert _ m k v => m.slots ++ (k.slots ++ v.slots)
  | .lookup _ _ _ m k => m.slots ++ k.slots
  | .makeFunc _ a b => a.flatMap Opd.slots ++ b.flatMap Opd.slots
  | .call f args | .callp f args => f.slots ++ args.flatMap Opd.slots

/-- The slots whose value may lose what it owns. -/
def AOp.takes : AOp → List Nat
  | .take x => x.slots
  | .store _ _ v => v.slots
  | .append _ x _ => x.slots
  | _ => []

def AOp.state : AOp → Bool
  | .call _ _ | .store _ _ _ | .append _ _ _ | .insert _ _ _ _ | .alloc _ | .allocB | .box _ | .makeMap => true
  | _ => false

def ReadsEq (o : AOp) (A : Frame) (s t : ASt) : Prop :=
  match o with
  | .load n agg a => loadAt s n agg (a.ev A) = loadAt t n agg (a.ev A)
  | .lookup _ _ _ m _ => entries s (m.ev A) = entries t (m.ev A)
  | _ => True

theorem sameO_eq {a b : Option AVal} (h : sameO a b = true) : a = b := by
  cases a <;> cases b <;> simp [sameO] at h ⊢
  exact same_eq h

theorem sameE_eq {a b : Option (List AVal × List AVal)} (h : sameE a b = true) : a = b := by
  rcases a with _ | ⟨a1, a2⟩ <;> rcases b with _ | ⟨b1, b2⟩ <;> simp [sameE] at h ⊢
  exact ⟨sameL_eq h.1, sameL_eq h.2⟩

theorem readsSame_eq {o : AOp} {A : Frame} {s t : ASt} (h : readsSame o A s t = true) : ReadsEq o A s t := by
  cases o <;> simp only [readsSame, ReadsEq] at h ⊢
  · exact sameO_eq h
  · exact sameE_eq h

section
variable {A B A' : Frame} {s s' t : ASt} {call : CallFn} {v : AVal}

theorem ev_congr {x : Opd} (h : ∀ d ∈ x.slots, A.get d = B.get d) : x.ev B = x.ev A := by
  cases x with
  | tmp d => simp only [Opd.ev, h d (by simp [Opd.slots])]
  | _ => rfl

structure Like (ws : List Nat) (A B A' B' : Frame) : Prop where
  same : ∀ d ∈ ws, A'.get d = B'.get d
  left : ∀ d, d ∉ ws → A'.get d = A.get d
  right : ∀ d, d ∉ ws → B'.get d = B.get d

theorem get_put' (A : Frame) (d k : Nat) (v : AVal) : (A.put k v).get d = if k = d then v else A.get d := rfl

theorem like_put {d : Nat} {v : AVal} : Like [d] A B (A.put d v) (B.put d v) :=
  ⟨fun k hk => by simp at hk; subst hk; simp [get_put'], fun k hk => by simp at hk; simp [get_put', Ne.symm hk], fun k hk => by simp at hk; simp [get_put', Ne.symm hk]⟩

theorem like_same {ws : List Nat} (h : ∀ d ∈ ws, A.get d = B.get d) : Like ws A B A B := ⟨h, fun _ _ => rfl, fun _ _ => rfl⟩
theorem like_nil : Like [] A B A B := like_same (by simp)

theorem taken_congr {x : Opd} (h : ∀ d ∈ x.slots, A.get d = B.get d) : (x.taken B).1 = (x.taken A).1 ∧ Like x.slots A B (x.taken A).2 (x.taken B).2 := by
  cases x with
  | tmp d =>
    have e := h d (by simp [Opd.slots])
    simp only [Opd.taken, ← e, Opd.slots]
    split
    · exact ⟨rfl, like_put⟩
    · exact ⟨rfl, like_same (fun k hk => by simp at hk; subst hk; exact e)⟩
  | val a => exact ⟨rfl, like_nil⟩
  | fn i => exact ⟨rfl, like_nil⟩

theorem map_ev_congr {l : List Opd} (h : ∀ d ∈ l.flatMap Opd.slots, A.get d = B.get d) : l.map (·.ev B) = l.map (·.ev A) :=
  List.map_congr_left fun x hx => ev_congr fun d hd => h d (List.mem_flatMap.2 ⟨x, hx, hd⟩)

theorem parts_congr {l : List (Nat × Nat × Opd)} (h : ∀ d ∈ l.flatMap (fun p => p.2.2.slots), A.get d = B.get d) :
    (l.map fun (i, n, x) => (i, n, Opd.ev B x)) = l.map fun (i, n, x) => (i, n, Opd.ev A x) :=
  List.map_congr_left fun x hx => by
    obtain ⟨i, n, x⟩ := x
    show (i, n, Opd.ev B x) = (i, n, Opd.ev A x)
    rw [ev_congr fun d hd => h d (List.mem_flatMap.2 ⟨(i, n, x), hx, hd⟩)]

theorem opt_congr {x : Option Opd} (h : ∀ d ∈ optSlots x, A.get d = B.get d) : x.map (·.ev B) = x.map (·.ev A) := by
  cases x with
  | none => rfl
  | some x => simp only [Option.map_some, ev_congr (x := x) h]

theorem base_congr {size : Nat} {x : Opd} (h : ∀ d ∈ x.slots, A.get d = B.get d) {cs : List AVal} {n : Nat} (hx : base size A s x = some (cs, n, A', s')) :
    ∃ B', base size B s x = some (cs, n, B', s') ∧ Like x.slots A B A' B' := by
  cases x with
  | val a => cases a <;> simp only [base] at hx ⊢ <;> cases hx; exact ⟨B, rfl, like_nil⟩
  | fn i => simp [base] at hx
  | tmp d =>
    have e := h d (by simp [Opd.slots])
    have hl : Like [d] A B A B := like_same (fun k hk => by simp at hk; subst hk; exact e)
    simp only [base, e, Opd.slots] at hx ⊢
    split at hx
    · cases hx; exact ⟨B, rfl, hl⟩
    · cases hx; exact ⟨B, rfl, hl⟩
    · split at hx
      · rename_i hz
        cases hx
        exact ⟨_, by rw [if_pos hz], like_put⟩
      · cases hx
    · split at hx
      · split at hx
        · split at hx
          · rename_i hz
            cases hx
            exact ⟨_, by rw [if_pos hz], hl⟩
          · cases hx
        · cases hx
      · cases hx
    · cases hx

/-- Other instructions than these three leave the frame alone. -/
def AOp.calm : AOp → Bool
  | .take _ | .store _ _ _ | .append _ _ _ => false
  | _ => true

def outF (B : Frame) (r : AVal × Frame × ASt) : AVal × Frame × ASt := (r.1, B, r.2.2)

theorem calm_congr {o : AOp} (hc : o.calm = true) (h : ∀ d ∈ o.reads, A.get d = B.get d) (hx : aop call o A s = some (v, A', s')) : A' = A ∧ aop call o B s = some (v, B, s') := by
  cases o <;> simp only [AOp.reads, List.mem_append, or_imp, forall_and] at h <;> try (cases hc; done)
  case mov x => cases hx; exact ⟨rfl, by simp only [aop, ev_congr h]⟩
  case pick c a b =>
    simp only [aop, ev_congr h.1, ev_congr h.2.1, ev_congr h.2.2] at hx ⊢
    split at hx <;> cases hx <;> exact ⟨rfl, rfl⟩
  case alloc cs => cases hx; exact ⟨rfl, rfl⟩
  case allocB => cases hx; exact ⟨rfl, rfl⟩
  case box x =>
    simp only [aop, ev_congr h] at hx ⊢
    split at hx
    · rename_i hk; cases hx; exact ⟨rfl, by rw [if_pos hk]⟩
    · cases hx
  case build zero parts =>
    simp only [aop, parts_congr h] at hx ⊢
    obtain ⟨u, hu, hx⟩ := bind_some' hx
    cases hx
    exact ⟨rfl, by rw [hu]; rfl⟩
  case buildSlice zero len parts =>
    simp only [aop, parts_congr h] at hx ⊢
    obtain ⟨u, hu, hx⟩ := bind_some' hx
    cases hx
    exact ⟨rfl, by rw [hu]; rfl⟩
  case load n agg a =>
    simp only [aop, ev_congr h] at hx ⊢
    obtain ⟨u, hu, hx⟩ := bind_some' hx
    cases hx
    exact ⟨rfl, by rw [hu]; rfl⟩
  case bin op ty x y =>
    simp only [aop, ev_congr h.1, ev_congr h.2] at hx ⊢
    obtain ⟨u, hu, hx⟩ := bind_some' hx
    cases hx
    exact ⟨rfl, by rw [hu]; rfl⟩
  case un op x =>
    simp only [aop, ev_congr h] at hx ⊢
    obtain ⟨u, hu, hx⟩ := bind_some' hx
    cases hx
    exact ⟨rfl, by rw [hu]; rfl⟩
  case conv k x =>
    simp only [aop, ev_congr h] at hx ⊢
    obtain ⟨u, hu, hx⟩ := bind_some' hx
    cases hx
    exact ⟨rfl, by rw [hu]; rfl⟩
  case fieldAddr off x =>
    simp only [aop, ev_congr h] at hx ⊢
    split at hx <;> cases hx <;> exact ⟨rfl, rfl⟩
  case field off n agg x =>
    simp only [aop, ev_congr h] at hx ⊢
    split at hx
    · obtain ⟨u, hu, hx⟩ := bind_some' hx
      obtain ⟨u', hu', hx⟩ := bind_some' hx
      cases hx
      exact ⟨rfl, by rw [hu]; simp only [Option.bind_eq_bind, Option.bind_some, hu']⟩
    · cases hx
  case indexAddr size x i =>
    simp only [aop, ev_congr h.1, ev_congr h.2] at hx ⊢
    split at hx
    · split at hx
      · rename_i hk; cases hx; exact ⟨rfl, by rw [if_pos hk]⟩
      · cases hx
    · cases hx
  case index x i =>
    simp only [aop, ev_congr h.1, ev_congr h.2] at hx ⊢
    split at hx
    · split at hx
      · rename_i hk
        obtain ⟨u, hu, hx⟩ := bind_some' hx
        cases hx; exact ⟨rfl, by rw [if_pos hk, hu]; rfl⟩
      · cases hx
    · cases hx
  case slice str size x lo hi =>
    simp only [aop, ev_congr h.1, opt_congr h.2.1, opt_congr h.2.2] at hx ⊢
    obtain ⟨u, hu, hx⟩ := bind_some' hx
    cases hx
    exact ⟨rfl, by rw [hu]; rfl⟩
  case makeMap => cases hx; exact ⟨rfl, rfl⟩
  case insert kt m k v0 =>
    simp only [aop, ev_congr h.1, ev_congr h.2.1, ev_congr h.2.2] at hx ⊢
    split at hx
    · split at hx
      · obtain ⟨u, hu, hx⟩ := bind_some' hx
        split at hx
        · rename_i hk
          cases hx
          refine ⟨rfl, ?_⟩
          rw [hu]
          simp only [Option.bind_eq_bind, Option.bind_some]
          rw [if_pos hk]
        · cases hx
      · cases hx
    · cases hx
  case lookup kt zero ok m k =>
    simp only [aop, ev_congr h.1, ev_congr h.2] at hx ⊢
    obtain ⟨u, hu, hx⟩ := bind_some' hx
    obtain ⟨u', hu', hx⟩ := bind_some' hx
    cases hx
    exact ⟨rfl, by rw [hu]; simp only [Option.bind_eq_bind, Option.bind_some, hu']⟩
  case extract x i =>
    simp only [aop, ev_congr h] at hx ⊢
    split at hx
    · obtain ⟨u, hu, hx⟩ := bind_some' hx
      cases hx
      exact ⟨rfl, by rw [hu]; rfl⟩
    · cases hx
  case nilCheck x =>
    simp only [aop, ev_congr h] at hx ⊢
    split at hx <;> cases hx <;> exact ⟨rfl, rfl⟩
  case makeFunc f a b =>
    simp only [aop, map_ev_congr (l := a) h.1, map_ev_congr (l := b) h.2] at hx ⊢
    cases hx; exact ⟨rfl, rfl⟩
  case call f args =>
    simp only [aop, ev_congr h.1, map_ev_congr (l := args) h.2] at hx ⊢
    split at hx
    · obtain ⟨u, hu, hx⟩ := map_some' hx
      cases hx
      exact ⟨rfl, by rw [hu]; rfl⟩
    · cases hx
  case callp f args =>
    simp only [aop, ev_congr h.1, map_ev_congr (l := args) h.2] at hx ⊢
    split at hx
    · split at hx
      · rename_i hu
        obtain ⟨u, hu2, hx⟩ := bind_some' hx
        split at hx
        · rename_i hn
          cases hx
          exact ⟨rfl, by rw [if_pos hu, hu2]; simp only [Option.bind_some]; rw [if_pos hn]⟩
        · cases hx
      · cases hx
    · cases hx
  case len str x =>
    simp only [aop, ev_congr h] at hx ⊢
    split at hx <;> cases hx <;> exact ⟨rfl, rfl⟩
  case minmax m x y =>
    simp only [aop, ev_congr h.1, ev_congr h.2] at hx ⊢
    split at hx
    · split at hx
      · rename_i hk; cases hx; exact ⟨rfl, by rw [if_pos hk]⟩
      · cases hx
    · cases hx
  case bad => cases hx

theorem aop_congr {o : AOp} (h : ∀ d ∈ o.reads, A.get d = B.get d) (hx : aop call o A s = some (v, A', s')) :
    ∃ B', aop call o B s = some (v, B', s') ∧ Like o.takes A B A' B' := by
  cases hc : o.calm
  · cases o <;> simp only [AOp.calm, Bool.true_eq_false] at hc <;> simp only [AOp.reads, List.mem_append, or_imp, forall_and] at h
    case take x =>
      obtain ⟨e, hl⟩ := taken_congr h
      simp only [aop] at hx ⊢
      cases hx
      exact ⟨_, by rw [e], hl⟩
    case store n a v0 =>
      obtain ⟨e, hl⟩ := taken_congr h.2
      simp only [aop, ev_congr h.1, e] at hx ⊢
      obtain ⟨u, hu, hx⟩ := bind_some' hx
      cases hx
      exact ⟨_, by rw [hu]; rfl, hl⟩
    case append size x y =>
      obtain ⟨e, hl⟩ := taken_congr h.1
      simp only [aop, aappend, ev_congr h.2, e, AOp.takes] at hx ⊢
      obtain ⟨⟨new, k⟩, hu, hx⟩ := bind_some' hx
      rw [hu]
      simp only [Option.bind_eq_bind, Option.bind_some] at hx ⊢
      split at hx
      · rename_i hk
        rw [if_pos hk]
        split at hx
        · cases hx; exact ⟨_, rfl, hl⟩
        · cases hx; exact ⟨_, rfl, hl⟩
        · cases hx
      · rename_i hk
        rw [if_neg hk]
        obtain ⟨⟨cs, n, A1, s1⟩, hb, hx⟩ := bind_some' hx
        obtain ⟨B', hb', hl'⟩ := base_congr h.1 hb
        rw [hb']
        simp only [Option.bind_some] at hx ⊢
        split at hx
        · rename_i hq
          cases hx
          exact ⟨_, by rw [if_pos hq], hl'⟩
        · cases hx
  · obtain ⟨rfl, h2⟩ := calm_congr hc h hx
    have : o.takes = [] := by cases o <;> first | rfl | cases hc
    rw [this]
    exact ⟨B, h2, like_nil⟩

/-- An instruction that changes no state, in another state that reads the same. -/
theorem aop_plain {o : AOp} (hs : o.state = false) (hr : ReadsEq o A s t) (hx : aop call o A s = some (v, A', s')) : s' = s ∧ aop call o A t = some (v, A', t) := by
  cases o <;> try (cases hs; done)
  case load n agg a =>
    simp only [ReadsEq] at hr
    simp only [aop] at hx ⊢
    obtain ⟨u, hu, hx⟩ := bind_some' hx
    cases hx
    exact ⟨rfl, by rw [← hr, hu]; rfl⟩
  case lookup kt zero ok m k =>
    simp only [ReadsEq] at hr
    simp only [aop] at hx ⊢
    obtain ⟨u, hu, hx⟩ := bind_some' hx
    obtain ⟨u', hu', hx⟩ := bind_some' hx
    cases hx
    exact ⟨rfl, by rw [← hr, hu]; simp only [Option.bind_eq_bind, Option.bind_some, hu']⟩
  case mov x => cases hx; exact ⟨rfl, rfl⟩
  case take x => cases hx; exact ⟨rfl, rfl⟩
  case pick c a b =>
    simp only [aop] at hx ⊢
    split at hx <;> cases hx <;> exact ⟨rfl, rfl⟩
  case build zero parts =>
    simp only [aop] at hx ⊢
    obtain ⟨u, hu, hx⟩ := bind_some' hx
    cases hx
    exact ⟨rfl, by rw [hu]; rfl⟩
  case buildSlice zero len parts =>
    simp only [aop] at hx ⊢
    obtain ⟨u, hu, hx⟩ := bind_some' hx
    cases hx
    exact ⟨rfl, by rw [hu]; rfl⟩
  case bin op ty x y =>
    simp only [aop] at hx ⊢
    obtain ⟨u, hu, hx⟩ := bind_some' hx
    cases hx
    exact ⟨rfl, by rw [hu]; rfl⟩
  case un op x =>
    simp only [aop] at hx ⊢
    obtain ⟨u, hu, hx⟩ := bind_some' hx
    cases hx
    exact ⟨rfl, by rw [hu]; rfl⟩
  case conv k x =>
    simp only [aop] at hx ⊢
    obtain ⟨u, hu, hx⟩ := bind_some' hx
    cases hx
    exact ⟨rfl, by rw [hu]; rfl⟩
  case fieldAddr off x =>
    simp only [aop] at hx ⊢
    split at hx <;> cases hx <;> exact ⟨rfl, rfl⟩
  case field off n agg x =>
    simp only [aop] at hx ⊢
    split at hx
    · obtain ⟨u, hu, hx⟩ := bind_some' hx
      obtain ⟨u', hu', hx⟩ := bind_some' hx
      cases hx
      exact ⟨rfl, by rw [hu]; simp only [Option.bind_eq_bind, Option.bind_some, hu']⟩
    · cases hx
  case indexAddr size x i =>
    simp only [aop] at hx ⊢
    split at hx
    · split at hx
      · rename_i hk; cases hx; exact ⟨rfl, by rw [if_pos hk]⟩
      · cases hx
    · cases hx
  case index x i =>
    simp only [aop] at hx ⊢
    split at hx
    · split at hx
      · rename_i hk
        obtain ⟨u, hu, hx⟩ := bind_some' hx
        cases hx; exact ⟨rfl, by rw [if_pos hk, hu]; rfl⟩
      · cases hx
    · cases hx
  case slice str size x lo hi =>
    simp only [aop] at hx ⊢
    obtain ⟨u, hu, hx⟩ := bind_some' hx
    cases hx
    exact ⟨rfl, by rw [hu]; rfl⟩
  case extract x i =>
    simp only [aop] at hx ⊢
    split at hx
    · obtain ⟨u, hu, hx⟩ := bind_some' hx
      cases hx
      exact ⟨rfl, by rw [hu]; rfl⟩
    · cases hx
  case nilCheck x =>
    simp only [aop] at hx ⊢
    split at hx <;> cases hx <;> exact ⟨rfl, rfl⟩
  case makeFunc f a b => cases hx; exact ⟨rfl, rfl⟩
  case callp f args =>
    simp only [aop] at hx ⊢
    split at hx
    · split at hx
      · rename_i hu
        obtain ⟨u, hu2, hx⟩ := bind_some' hx
        split at hx
        · rename_i hn
          cases hx
          exact ⟨rfl, by rw [if_pos hu, hu2]; simp only [Option.bind_some]; rw [if_pos hn]⟩
        · cases hx
      · cases hx
    · cases hx
  case len str x =>
    simp only [aop] at hx ⊢
    split at hx <;> cases hx <;> exact ⟨rfl, rfl⟩
  case minmax m x y =>
    simp only [aop] at hx ⊢
    split at hx
    · split at hx
      · rename_i hk; cases hx; exact ⟨rfl, by rw [if_pos hk]⟩
      · cases hx
    · cases hx
  case bad => cases hx

theorem wanted_congr {gd : Option (Nat × Bool)} (h : ∀ d ∈ (match gd with | some (d, _) => [d] | none => ([] : List Nat)), A.get d = B.get d) : wanted B gd = wanted A gd := by
  cases gd with
  | none => rfl
  | some x =>
    obtain ⟨d, b⟩ := x
    simp only [wanted, h d (by simp)]

end
end Go.Proofs.YtdhgdpokdhjanaaGreat.Abs
