/- What is known of some calls serves the reckoning of others. -/
import Derived.Test.YtdhgdpokdhjanaaGreatA26
set_option linter.unusedSimpArgs false
set_option linter.unusedVariables false
namespace Go.Proofs.YtdhgdpokdhjanaaGreat.Abs
open Go

/-- A machine that knows the answers of some calls of another one answers as that one. -/
theorem Call_more {C C' : Cfg} (hf : C'.funcs = C.funcs) (hx : ∀ f h, C'.ext f = some h → ∀ args s r, h args s = some r → Call C f args s = some r) (hn : ∀ f, C'.ext f = none → C.ext f = none) :
    ∀ k, (∀ f args s r, (upto C' k).1 f args s = some r → Call C f args s = some r) ∧ ∀ b keep A s r, (upto C' k).2 b keep A s = some r → Loop C b keep A s = some r
  | 0 => ⟨fun _ _ _ _ h => (by cases h), fun _ _ _ _ _ h => (by cases h)⟩
  | k + 1 => by
    obtain ⟨h1, h2⟩ := Call_more hf hx hn k
    refine ⟨fun f args s r h => ?_, fun b keep A s r h => ?_⟩
    · have h : stepCall C' (upto C' k).1 (upto C' k).2 f args s = some r := h
      simp only [stepCall] at h
      cases he : C'.ext f with
      | some g =>
        rw [he] at h
        exact hx f g he args s r h
      | none =>
        rw [he] at h
        rw [Call_eq]
        refine stepCall_mono C h1 h2 f args s r ?_
        simp only [stepCall, hn f he]
        rw [hf] at h
        exact h
    · rw [Loop_eq]
      exact stepLoop_mono h1 h2 b keep A s r h

/-- A list of calls that see no object, with their answers. -/
structure Fact where
  f : Nat
  args : List AVal
  v : AVal

def Fact.holds (C : Cfg) (x : Fact) : Prop := Call C x.f x.args ⟨0, []⟩ = some (x.v, ⟨0, []⟩)
def lookFact (f : Nat) (args : List AVal) : List Fact → Option AVal
  | [] => none
  | x :: l => if x.f == f && sameL x.args args then some x.v else lookFact f args l
def Cfg.know (C : Cfg) (fs : List Fact) : Cfg where
  funcs := C.funcs
  ext := fun f => if fs.any (fun x => x.f == f) then some (fun args s => match s with
      | ⟨0, []⟩ => (lookFact f args fs).map fun v => (v, ⟨0, []⟩)
      | _ => none) else C.ext f

theorem lookFact_mem {f : Nat} {args : List AVal} {v : AVal} : ∀ {fs : List Fact}, lookFact f args fs = some v → ∃ x ∈ fs, x.f = f ∧ x.args = args ∧ x.v = v
  | x :: l, h => by
    simp only [lookFact] at h
    split at h
    · rename_i hx
      simp only [Bool.and_eq_true, beq_iff_eq] at hx
      cases h
      exact ⟨x, by simp, hx.1, sameL_eq hx.2, rfl⟩
    · obtain ⟨y, h1, h2⟩ := lookFact_mem h
      exact ⟨y, by simp [h1], h2⟩

theorem Call_know {C : Cfg} {fs : List Fact} (hfs : ∀ x ∈ fs, x.holds C) {k f : Nat} {args : List AVal} {s : ASt} {r : AVal × ASt} (h : (uptoR (C.know fs) k).1 f args s = some r) : Call C f args s = some r := by
  rw [uptoR_eq, uptoF_eq] at h
  refine (Call_more (C := C) (C' := C.know fs) rfl ?_ ?_ k).1 f args s r h
  · intro f g hg args s r hr
    simp only [Cfg.know] at hg
    split at hg
    · cases hg
      obtain ⟨n, os⟩ := s
      cases n with
      | succ n => cases hr
      | zero =>
        cases os with
        | cons o os => cases hr
        | nil =>
          obtain ⟨v, hv, rfl⟩ := map_some' hr
          obtain ⟨x, hx, rfl, rfl, rfl⟩ := lookFact_mem hv
          exact hfs x hx
    · rw [Call_eq]
      simp only [stepCall, hg]
      exact hr
  · intro f hf
    simp only [Cfg.know] at hf
    split at hf
    · cases hf
    · exact hf

end Go.Proofs.YtdhgdpokdhjanaaGreat.Abs
