/- More fuel gives the same answers; the answers with enough fuel ('Call', 'Loop') obey the equations without fuel. -/
import Derived.Test.YtdhgdpokdhjanaaGreatA1
set_option linter.unusedSimpArgs false
set_option linter.unusedVariables false
namespace Go.Proofs.YtdhgdpokdhjanaaGreat.Abs
open Go

theorem bind_some' {α β : Type} {x : Option α} {f : α → Option β} {r : β} (h : x.bind f = some r) : ∃ a, x = some a ∧ f a = some r := by
  cases x with
  | none => cases h
  | some a => exact ⟨a, rfl, h⟩

theorem map_some' {α β : Type} {x : Option α} {f : α → β} {r : β} (h : x.map f = some r) : ∃ a, x = some a ∧ f a = r := by
  cases x with
  | none => cases h
  | some a => exact ⟨a, rfl, by simpa using h⟩

section mono
variable {call call' : CallFn} {loop loop' : LoopFn}

theorem aop_mono (hc : ∀ f args s r, call f args s = some r → call' f args s = some r) (o : AOp) (A : Frame) (s : ASt) (r : AVal × Frame × ASt)
    (h : aop call o A s = some r) : aop call' o A s = some r := by
  cases o
  case call f args =>
    simp only [aop] at h ⊢
    split at h
    · obtain ⟨x, hx, rfl⟩ := map_some' h
      rw [hc _ _ _ _ hx]; rfl
    · cases h
  case callp f args =>
    simp only [aop] at h ⊢
    split at h
    · split at h
      · rename_i hu
        rw [if_pos hu]
        obtain ⟨x, hx, h⟩ := bind_some' h
        rw [hc _ _ _ _ hx]; exact h
      · cases h
    · cases h
  all_goals exact h

theorem exOps_mono (hc : ∀ f args s r, call f args s = some r → call' f args s = some r) : ∀ (ops : List AOper) (A : Frame) (s : ASt) (r : Frame × ASt),
    exOps call ops A s = some r → exOps call' ops A s = some r
  | [], _, _, _, h => h
  | o :: rest, A, s, r, h => by
    simp only [exOps] at h ⊢
    split at h
    · obtain ⟨⟨v, A1, s1⟩, hx, hr⟩ := bind_some' h
      rw [aop_mono hc _ _ _ _ hx]
      exact exOps_mono hc rest _ _ _ hr
    · exact exOps_mono hc rest _ _ _ h
    · cases h

theorem exTrace_mono (hc : ∀ f args s r, call f args s = some r → call' f args s = some r) : ∀ (ops : List AOper) (A : Frame) (s : ASt) (r : List (Frame × ASt)),
    exTrace call ops A s = some r → exTrace call' ops A s = some r
  | [], _, _, _, h => h
  | o :: rest, A, s, r, h => by
    simp only [exTrace] at h ⊢
    split at h
    · obtain ⟨⟨v, A1, s1⟩, hx, hr⟩ := bind_some' h
      obtain ⟨l, hl, rfl⟩ := map_some' hr
      rw [aop_mono hc _ _ _ _ hx]
      simp only [Option.bind_some, exTrace_mono hc rest _ _ _ hl, Option.map_some]
    · obtain ⟨l, hl, rfl⟩ := map_some' h
      simp only [exTrace_mono hc rest _ _ _ hl, Option.map_some]
    · cases h

theorem exDraw_mono (hc : ∀ f args s r, call f args s = some r → call' f args s = some r) (pairs : List (Nat × Nat)) (ops : List AOper) (A : Frame) (s : ASt) (r : Frame × ASt)
    (h : exDraw call pairs ops A s = some r) : exDraw call' pairs ops A s = some r := by
  simp only [exDraw] at h ⊢
  obtain ⟨x, hx, hr⟩ := bind_some' h
  rw [exTrace_mono hc _ _ _ _ hx]
  exact hr

theorem exec_mono (hc : ∀ f args s r, call f args s = some r → call' f args s = some r)
    (hl : ∀ b keep A s r, loop b keep A s = some r → loop' b keep A s = some r) : ∀ (c : ACode) (A : Frame) (s : ASt) (r : AExit × Frame × ASt),
    exec call loop c A s = some r → exec call' loop' c A s = some r
  | .skip, _, _, _, h => h
  | .region none ops keep, A, s, r, h => by
    simp only [exec] at h ⊢
    obtain ⟨x, hx, rfl⟩ := map_some' h
    rw [exOps_mono hc _ _ _ _ hx]; rfl
  | .region (some pairs) ops keep, A, s, r, h => by
    simp only [exec] at h ⊢
    obtain ⟨x, hx, rfl⟩ := map_some' h
    rw [exDraw_mono hc _ _ _ _ _ hx]; rfl
  | .seq a b, A, s, r, h => by
    simp only [exec] at h ⊢
    obtain ⟨⟨e, A1, s1⟩, hx, hr⟩ := bind_some' h
    rw [exec_mono hc hl a _ _ _ hx]
    simp only [Option.bind_some]
    cases e with
    | normal => exact exec_mono hc hl b _ _ _ hr
    | exit id => exact hr
    | ret => exact hr
  | .cond c a b, A, s, r, h => by
    simp only [exec] at h ⊢
    split at h
    · split at h
      · rw [if_pos (by assumption)]; exact exec_mono hc hl a _ _ _ h
      · rw [if_neg (by assumption)]; exact exec_mono hc hl b _ _ _ h
    · cases h
  | .block id a, A, s, r, h => by
    simp only [exec] at h ⊢
    obtain ⟨x, hx, rfl⟩ := map_some' h
    rw [exec_mono hc hl a _ _ _ hx]; rfl
  | .loop a keep, A, s, r, h => by
    simp only [exec] at h ⊢
    exact hl _ _ _ _ _ h
  | .exit _, _, _, _, h => h
  | .ret, _, _, _, h => h
  | .bad, _, _, _, h => h

theorem stepCall_mono (C : Cfg) (hc : ∀ f args s r, call f args s = some r → call' f args s = some r)
    (hl : ∀ b keep A s r, loop b keep A s = some r → loop' b keep A s = some r) (f : Nat) (args : List AVal) (s : ASt) (r : AVal × ASt)
    (h : stepCall C call loop f args s = some r) : stepCall C call' loop' f args s = some r := by
  simp only [stepCall] at h ⊢
  split at h
  · exact h
  · split at h
    · rename_i fn _
      simp only [runBody] at h ⊢
      split at h
      · rw [if_pos (by assumption)]
        obtain ⟨x, hx, hr⟩ := bind_some' h
        rw [exec_mono hc hl _ _ _ _ hx]
        exact hr
      · cases h
    · cases h

theorem stepLoop_mono (hc : ∀ f args s r, call f args s = some r → call' f args s = some r)
    (hl : ∀ b keep A s r, loop b keep A s = some r → loop' b keep A s = some r) (b : ACode) (keep : List Nat) (A : Frame) (s : ASt) (r : AExit × Frame × ASt)
    (h : stepLoop call loop b keep A s = some r) : stepLoop call' loop' b keep A s = some r := by
  simp only [stepLoop] at h ⊢
  obtain ⟨⟨e, A1, s1⟩, hx, hr⟩ := bind_some' h
  rw [exec_mono hc hl _ _ _ _ hx]
  simp only [Option.bind_some]
  cases e with
  | normal =>
    simp only at hr ⊢
    by_cases hn : s1.n = s.n
    · rw [if_pos hn] at hr ⊢
      exact hl _ _ _ _ _ hr
    rw [if_neg hn] at hr ⊢
    obtain ⟨B, hB, hr⟩ := bind_some' hr
    simp only [hB]
    exact hl _ _ _ _ _ hr
  | exit id => exact hr
  | ret => exact hr
end mono

variable (C : Cfg)

theorem upto_succ : ∀ k, (∀ f args s r, (upto C k).1 f args s = some r → (upto C (k + 1)).1 f args s = some r) ∧
    (∀ b keep A s r, (upto C k).2 b keep A s = some r → (upto C (k + 1)).2 b keep A s = some r)
  | 0 => ⟨fun _ _ _ _ h => (by cases h), fun _ _ _ _ _ h => (by cases h)⟩
  | k + 1 => by
    obtain ⟨h1, h2⟩ := upto_succ k
    exact ⟨fun f args s r h => stepCall_mono C h1 h2 f args s r h, fun b keep A s r h => stepLoop_mono h1 h2 b keep A s r h⟩

theorem upto_le {k m : Nat} (h : k ≤ m) : (∀ f args s r, (upto C k).1 f args s = some r → (upto C m).1 f args s = some r) ∧
    (∀ b keep A s r, (upto C k).2 b keep A s = some r → (upto C m).2 b keep A s = some r) := by
  induction m with
  | zero => obtain rfl : k = 0 := by omega
            exact ⟨fun _ _ _ _ h => h, fun _ _ _ _ _ h => h⟩
  | succ m ih =>
    by_cases e : k = m + 1
    · subst e; exact ⟨fun _ _ _ _ h => h, fun _ _ _ _ _ h => h⟩
    · obtain ⟨h1, h2⟩ := ih (by omega)
      obtain ⟨h3, h4⟩ := upto_succ C m
      exact ⟨fun f args s r h => h3 _ _ _ _ (h1 _ _ _ _ h), fun b keep A s r h => h4 _ _ _ _ _ (h2 _ _ _ _ _ h)⟩

open Classical in
/-- What a call comes to, with enough fuel. -/
noncomputable def Call : CallFn := fun f args s =>
  if h : ∃ k r, (upto C k).1 f args s = some r then some h.choose_spec.choose else none
open Classical in
noncomputable def Loop : LoopFn := fun b keep A s =>
  if h : ∃ k r, (upto C k).2 b keep A s = some r then some h.choose_spec.choose else none

theorem Call_of {k f : Nat} {args : List AVal} {s : ASt} {r : AVal × ASt} (h : (upto C k).1 f args s = some r) : Call C f args s = some r := by
  have hh : ∃ k r, (upto C k).1 f args s = some r := ⟨k, r, h⟩
  unfold Call
  rw [dif_pos hh]
  have h2 := hh.choose_spec.choose_spec
  have h3 := (upto_le C (Nat.le_max_left hh.choose k)).1 _ _ _ _ h2
  have h4 := (upto_le C (Nat.le_max_right hh.choose k)).1 _ _ _ _ h
  rw [h3] at h4
  exact h4

theorem Loop_of {k : Nat} {b : ACode} {keep : List Nat} {A : Frame} {s : ASt} {r : AExit × Frame × ASt} (h : (upto C k).2 b keep A s = some r) : Loop C b keep A s = some r := by
  have hh : ∃ k r, (upto C k).2 b keep A s = some r := ⟨k, r, h⟩
  unfold Loop
  rw [dif_pos hh]
  have h2 := hh.choose_spec.choose_spec
  have h3 := (upto_le C (Nat.le_max_left hh.choose k)).2 _ _ _ _ _ h2
  have h4 := (upto_le C (Nat.le_max_right hh.choose k)).2 _ _ _ _ _ h
  rw [h3] at h4
  exact h4

theorem of_Call {f : Nat} {args : List AVal} {s : ASt} {r : AVal × ASt} (h : Call C f args s = some r) : ∃ k, (upto C k).1 f args s = some r := by
  unfold Call at h
  split at h
  · rename_i hh
    cases h
    exact ⟨_, hh.choose_spec.choose_spec⟩
  · cases h

theorem of_Loop {b : ACode} {keep : List Nat} {A : Frame} {s : ASt} {r : AExit × Frame × ASt} (h : Loop C b keep A s = some r) : ∃ k, (upto C k).2 b keep A s = some r := by
  unfold Loop at h
  split at h
  · rename_i hh
    cases h
    exact ⟨_, hh.choose_spec.choose_spec⟩
  · cases h

theorem aop_cont (o : AOp) (A : Frame) (s : ASt) (r : AVal × Frame × ASt) (h : aop (Call C) o A s = some r) : ∃ k, aop (upto C k).1 o A s = some r := by
  cases o
  case call f args =>
    simp only [aop] at h ⊢
    split at h
    · obtain ⟨x, hx, rfl⟩ := map_some' h
      obtain ⟨k, hk⟩ := of_Call C hx
      exact ⟨k, by rw [hk]; rfl⟩
    · cases h
  case callp f args =>
    simp only [aop] at h ⊢
    split at h
    · split at h
      · rename_i hu
        obtain ⟨x, hx, h⟩ := bind_some' h
        obtain ⟨k, hk⟩ := of_Call C hx
        exact ⟨k, by rw [if_pos hu, hk]; exact h⟩
      · cases h
    · cases h
  all_goals exact ⟨0, h⟩

theorem exOps_cont : ∀ (ops : List AOper) (A : Frame) (s : ASt) (r : Frame × ASt), exOps (Call C) ops A s = some r → ∃ k, exOps (upto C k).1 ops A s = some r
  | [], _, _, _, h => ⟨0, h⟩
  | o :: rest, A, s, r, h => by
    simp only [exOps] at h ⊢
    split at h
    · obtain ⟨⟨v, A1, s1⟩, hx, hr⟩ := bind_some' h
      obtain ⟨k1, h1⟩ := aop_cont C _ _ _ _ hx
      obtain ⟨k2, h2⟩ := exOps_cont rest _ _ _ hr
      refine ⟨max k1 k2, ?_⟩
      rw [aop_mono (upto_le C (Nat.le_max_left k1 k2)).1 _ _ _ _ h1]
      exact exOps_mono (upto_le C (Nat.le_max_right k1 k2)).1 _ _ _ _ h2
    · exact exOps_cont rest _ _ _ h
    · cases h

theorem exTrace_cont : ∀ (ops : List AOper) (A : Frame) (s : ASt) (r : List (Frame × ASt)), exTrace (Call C) ops A s = some r → ∃ k, exTrace (upto C k).1 ops A s = some r
  | [], _, _, _, h => ⟨0, h⟩
  | o :: rest, A, s, r, h => by
    simp only [exTrace] at h ⊢
    split at h
    · obtain ⟨⟨v, A1, s1⟩, hx, hr⟩ := bind_some' h
      obtain ⟨l, hl, rfl⟩ := map_some' hr
      obtain ⟨k1, h1⟩ := aop_cont C _ _ _ _ hx
      obtain ⟨k2, h2⟩ := exTrace_cont rest _ _ _ hl
      refine ⟨max k1 k2, ?_⟩
      rw [aop_mono (upto_le C (Nat.le_max_left k1 k2)).1 _ _ _ _ h1]
      simp only [Option.bind_some, exTrace_mono (upto_le C (Nat.le_max_right k1 k2)).1 _ _ _ _ h2, Option.map_some]
    · obtain ⟨l, hl, rfl⟩ := map_some' h
      obtain ⟨k, hk⟩ := exTrace_cont rest _ _ _ hl
      exact ⟨k, by simp only [hk, Option.map_some]⟩
    · cases h

theorem exDraw_cont (pairs : List (Nat × Nat)) (ops : List AOper) (A : Frame) (s : ASt) (r : Frame × ASt) (h : exDraw (Call C) pairs ops A s = some r) : ∃ k, exDraw (upto C k).1 pairs ops A s = some r := by
  simp only [exDraw] at h ⊢
  obtain ⟨x, hx, hr⟩ := bind_some' h
  obtain ⟨k, hk⟩ := exTrace_cont C _ _ _ _ hx
  exact ⟨k, by rw [hk]; exact hr⟩

theorem exec_cont : ∀ (c : ACode) (A : Frame) (s : ASt) (r : AExit × Frame × ASt), exec (Call C) (Loop C) c A s = some r →
    ∃ k, exec (upto C k).1 (upto C k).2 c A s = some r
  | .skip, _, _, _, h => ⟨0, h⟩
  | .region none ops keep, A, s, r, h => by
    simp only [exec] at h ⊢
    obtain ⟨x, hx, rfl⟩ := map_some' h
    obtain ⟨k, hk⟩ := exOps_cont C _ _ _ _ hx
    exact ⟨k, by rw [hk]; rfl⟩
  | .region (some pairs) ops keep, A, s, r, h => by
    simp only [exec] at h ⊢
    obtain ⟨x, hx, rfl⟩ := map_some' h
    obtain ⟨k, hk⟩ := exDraw_cont C _ _ _ _ _ hx
    exact ⟨k, by rw [hk]; rfl⟩
  | .seq a b, A, s, r, h => by
    simp only [exec] at h ⊢
    obtain ⟨⟨e, A1, s1⟩, hx, hr⟩ := bind_some' h
    obtain ⟨k1, h1⟩ := exec_cont a _ _ _ hx
    cases e with
    | normal =>
      obtain ⟨k2, h2⟩ := exec_cont b _ _ _ hr
      refine ⟨max k1 k2, ?_⟩
      rw [exec_mono (upto_le C (Nat.le_max_left k1 k2)).1 (upto_le C (Nat.le_max_left k1 k2)).2 _ _ _ _ h1]
      exact exec_mono (upto_le C (Nat.le_max_right k1 k2)).1 (upto_le C (Nat.le_max_right k1 k2)).2 _ _ _ _ h2
    | exit id => exact ⟨k1, by rw [h1]; exact hr⟩
    | ret => exact ⟨k1, by rw [h1]; exact hr⟩
  | .cond c a b, A, s, r, h => by
    simp only [exec] at h ⊢
    split at h
    · split at h
      · obtain ⟨k, hk⟩ := exec_cont a _ _ _ h
        exact ⟨k, by rw [if_pos (by assumption)]; exact hk⟩
      · obtain ⟨k, hk⟩ := exec_cont b _ _ _ h
        exact ⟨k, by rw [if_neg (by assumption)]; exact hk⟩
    · cases h
  | .block id a, A, s, r, h => by
    simp only [exec] at h ⊢
    obtain ⟨x, hx, rfl⟩ := map_some' h
    obtain ⟨k, hk⟩ := exec_cont a _ _ _ hx
    exact ⟨k, by rw [hk]; rfl⟩
  | .loop a keep, A, s, r, h => of_Loop C h
  | .exit _, _, _, _, h => ⟨0, h⟩
  | .ret, _, _, _, h => ⟨0, h⟩
  | .bad, _, _, _, h => ⟨0, h⟩

theorem option_ext {α : Type} {x y : Option α} (h1 : ∀ r, x = some r → y = some r) (h2 : ∀ r, y = some r → x = some r) : x = y := by
  cases x with
  | none => cases y with
    | none => rfl
    | some b => exact h2 b rfl
  | some a => exact (h1 a rfl).symm

theorem Call_eq (f : Nat) (args : List AVal) (s : ASt) : Call C f args s = stepCall C (Call C) (Loop C) f args s := by
  apply option_ext
  · intro r h
    obtain ⟨k, hk⟩ := of_Call C h
    cases k with
    | zero => cases hk
    | succ k => exact stepCall_mono C (fun _ _ _ _ h => Call_of C h) (fun _ _ _ _ _ h => Loop_of C h) _ _ _ _ hk
  · intro r h
    simp only [stepCall] at h
    split at h
    · rename_i g hg
      exact Call_of C (k := 1) (by simp only [upto, stepCall, hg]; exact h)
    · rename_i hg
      split at h
      · rename_i fn hfn
        simp only [runBody] at h
        split at h
        · rename_i hp
          obtain ⟨x, hx, hr⟩ := bind_some' h
          obtain ⟨k, hk⟩ := exec_cont C _ _ _ _ hx
          exact Call_of C (k := k + 1) (by simp only [upto, stepCall, hg, hfn, runBody, if_pos hp, hk]; exact hr)
        · cases h
      · cases h

theorem Loop_eq (b : ACode) (keep : List Nat) (A : Frame) (s : ASt) : Loop C b keep A s = stepLoop (Call C) (Loop C) b keep A s := by
  apply option_ext
  · intro r h
    obtain ⟨k, hk⟩ := of_Loop C h
    cases k with
    | zero => cases hk
    | succ k => exact stepLoop_mono (fun _ _ _ _ h => Call_of C h) (fun _ _ _ _ _ h => Loop_of C h) _ _ _ _ _ hk
  · intro r h
    simp only [stepLoop] at h
    obtain ⟨⟨e, A1, s1⟩, hx, hr⟩ := bind_some' h
    obtain ⟨k, hk⟩ := exec_cont C _ _ _ _ hx
    cases e with
    | normal =>
      simp only at hr
      by_cases hn : s1.n = s.n
      · rw [if_pos hn] at hr
        obtain ⟨m, hm⟩ := of_Loop C hr
        refine Loop_of C (k := max k m + 1) ?_
        simp only [upto, stepLoop]
        rw [exec_mono (upto_le C (Nat.le_max_left k m)).1 (upto_le C (Nat.le_max_left k m)).2 _ _ _ _ hk]
        simp only [Option.bind_some, if_pos hn]
        exact (upto_le C (Nat.le_max_right k m)).2 _ _ _ _ _ hm
      rw [if_neg hn] at hr
      obtain ⟨B, hB, hr⟩ := bind_some' hr
      obtain ⟨m, hm⟩ := of_Loop C hr
      refine Loop_of C (k := max k m + 1) ?_
      simp only [upto, stepLoop]
      rw [exec_mono (upto_le C (Nat.le_max_left k m)).1 (upto_le C (Nat.le_max_left k m)).2 _ _ _ _ hk]
      simp only [Option.bind_some, if_neg hn, hB]
      exact (upto_le C (Nat.le_max_right k m)).2 _ _ _ _ _ hm
    | exit id => exact Loop_of C (k := k + 1) (by simp only [upto, stepLoop, hk]; exact hr)
    | ret => exact Loop_of C (k := k + 1) (by simp only [upto, stepLoop, hk]; exact hr)

mutual
theorem same_eq : ∀ {a b : AVal}, a.same b = true → a = b
  | .undef, b, h => by cases b <;> simp [AVal.same] at h ⊢
  | .bool x, b, h => by cases b <;> simp [AVal.same] at h ⊢; exact h
  | .int k x, b, h => by cases b <;> simp [AVal.same] at h ⊢; exact h
  | .str x, b, h => by cases b <;> simp [AVal.same] at h ⊢; exact h
  | .nilp, b, h => by cases b <;> simp [AVal.same] at h ⊢
  | .nils, b, h => by cases b <;> simp [AVal.same] at h ⊢
  | .nilm, b, h => by cases b <;> simp [AVal.same] at h ⊢
  | .nilf, b, h => by cases b <;> simp [AVal.same] at h ⊢
  | .nili, b, h => by cases b <;> simp [AVal.same] at h ⊢
  | .ref r o, b, h => by cases b <;> simp [AVal.same] at h ⊢; exact h
  | .ipt cs o, b, h => by
    cases b <;> simp [AVal.same] at h ⊢
    exact ⟨sameL_eq h.1, h.2⟩
  | .sl cs n o, b, h => by
    cases b <;> simp [AVal.same] at h ⊢
    exact ⟨sameL_eq h.1.1, h.1.2, h.2⟩
  | .map r, b, h => by cases b <;> simp [AVal.same] at h ⊢; exact h
  | .imap ks vs, b, h => by
    cases b <;> simp [AVal.same] at h ⊢
    exact ⟨sameL_eq h.1, sameL_eq h.2⟩
  | .fn f x y, b, h => by
    cases b <;> simp [AVal.same] at h ⊢
    exact ⟨h.1.1, sameL_eq h.1.2, sameL_eq h.2⟩
  | .agg cs, b, h => by
    cases b <;> simp [AVal.same] at h ⊢
    exact sameL_eq h
  | .tup cs, b, h => by
    cases b <;> simp [AVal.same] at h ⊢
    exact sameL_eq h
theorem sameL_eq : ∀ {a b : List AVal}, sameL a b = true → a = b
  | [], b, h => by cases b <;> simp [sameL] at h ⊢
  | x :: a, b, h => by
    cases b <;> simp [sameL] at h ⊢
    exact ⟨same_eq h.1, sameL_eq h.2⟩
end

end Go.Proofs.YtdhgdpokdhjanaaGreat.Abs
